/- Of any filters, any attributes, each answer is as the document says. Part 5. -/
import Derived.Test.YtclpbfkbpcjejaaK4
namespace Go.Proofs.Ytclpbfkbpcjejaa
open Go Go.Ab
set_option linter.unusedVariables false
set_option linter.unusedSimpArgs false
set_option linter.unnecessarySimpa false
set_option maxRecDepth 20000
noncomputable section
variable (fr : Fr) (st : St) (k : Kt)
def fi25 : FI := { body := codeOf Try.f25, ntmps := 62, results := [.tmp 4], pers := [0, 1, 2, 3, 4, 5, 45, 46], locals := [2, 3], pure := true, marks := [] }
theorem fi25_eq : gS.fn 25 = some fi25 := by kernel_rfl
theorem st25 (a0 a1 : V) : startFr fi25 [a0, a1] = { ps := [(0, .val a0), (1, .val a1), (2, .any), (3, .any), (4, .any), (5, .any), (45, .any), (46, .any)], ts := [], lc := [] } := rfl
def b25 : Code := mini (codeOf Try.f25)
def c25_6 : Code := .seq (codeN b25 37) .ret
def c25_5 : Code := .cond (.tmp 42) c25_6 .skip
def c25_3 : Code := .seq (codeN b25 9) c25_5
def r25_26 : Array Oper := regOps (codeN (codeOf Try.f25) 5323)
def c25_26 : Code := .region 6 r25_26 true
def q25_26 : List (Oper × Fl) := [(op1 49 (.fieldAddr 27 (.tmp 2) 4) 0, ⟨true, false, true, false, false, false, true, true, false, false, []⟩),
 (ld 50 25 49 25, ⟨true, false, true, false, false, false, true, true, false, false, []⟩),
 (mv 51 5 3, ⟨true, false, true, false, false, false, true, true, false, false, []⟩),
 (ixa 52 25 50 51 0, ⟨true, false, true, false, false, false, true, true, false, false, []⟩),
 (ld 53 24 52 24, ⟨true, false, true, false, false, false, true, true, false, false, []⟩),
 (op1 54 (.fieldAddr 27 (.tmp 3) 4) 0, ⟨true, false, true, false, false, false, true, true, false, false, []⟩),
 (ld 55 25 54 25, ⟨true, false, true, false, false, false, true, true, false, false, []⟩),
 (mv 56 5 3, ⟨true, false, true, false, true, false, true, true, false, false, []⟩),
 (ixa 57 25 55 56 0, ⟨true, false, true, false, true, false, true, true, false, false, []⟩),
 (ld 58 24 57 24, ⟨true, false, true, false, true, false, true, true, false, false, []⟩),
 (cal 59 81 [(.tmp 53), (.tmp 58)] [24, 24] 4, ⟨true, true, true, false, true, true, true, true, false, false, []⟩),
 (op1 60 (.unOp .not 4 (.tmp 59)) 4, ⟨true, false, true, false, true, false, true, true, false, false, []⟩)]
def c25_28 : Code := .seq (codeN b25 19659) .ret
def c25_27 : Code := .cond (.tmp 60) c25_28 .skip
def c25_25 : Code := .seq c25_26 c25_27
def c25_23 : Code := .seq (codeN b25 2251) c25_25
def c25_32 : Code := codeN b25 971
def c25_21 : Code := .seq (.block 1 c25_23) c25_32
def c25_17 : Code := .seq (.cond (.tmp 47) .skip (.exit 0)) c25_21
def c25_15 : Code := .seq (codeN b25 139) c25_17
def c25_14 : Code := .loop c25_15
def c25_13 : Code := .block 0 c25_14
def c25_11 : Code := .seq (codeN b25 19) c25_13
def c25_33 : Code := .seq (codeN b25 23) .ret
def c25_10 : Code := .seq c25_11 c25_33
def c25_2 : Code := .seq c25_3 c25_10
def c25_0 : Code := .seq (codeN b25 2) c25_2
theorem E25 : evK gS fi25 c25_6 fr st k = opsR gS fi25 [op1 4 (.assign (.const (.bool false))) 4] fr st (.seq .ret k) ∧
 evK gS fi25 c25_5 fr st k = condK gS fi25 (fr.op (.tmp 42)).bool? c25_6 .skip fr st k ∧
 (evK gS fi25 c25_3 fr st k = opsR gS fi25 [op1 6 (.fieldAddr 27 (.tmp 2) 0) 0,
 ld 7 9 6 9,
 op1 8 (.fieldAddr 27 (.tmp 3) 0) 0,
 ld 9 9 8 9,
 bop 10 .neq 9 7 9 9 4,
 mv 11 10 4,
 mk (some 12) (.fieldAddr 27 (.tmp 2) 1) 0 (some (5, false)),
 mk (some 13) (.load 3 (.tmp 12)) 3 (some (5, false)),
 mk (some 14) (.fieldAddr 27 (.tmp 3) 1) 0 (some (5, false)),
 mk (some 15) (.load 3 (.tmp 14)) 3 (some (5, false)),
 mk (some 16) (.binOp .neq 3 (.tmp 13) (.tmp 15) 3) 4 (some (5, false)),
 op1 17 (.pick (.tmp 11) (.const (.bool true)) (.tmp 16)) 4,
 mv 18 17 4,
 mk (some 19) (.fieldAddr 27 (.tmp 2) 2) 0 (some (12, false)),
 mk (some 20) (.load 24 (.tmp 19)) 24 (some (12, false)),
 mk (some 21) (.fieldAddr 27 (.tmp 3) 2) 0 (some (12, false)),
 mk (some 22) (.load 24 (.tmp 21)) 24 (some (12, false)),
 mk (some 23) (.call { callee := (.value (.func 81)), args := #[(.tmp 20), (.tmp 22)], argTypes := #[24, 24] }) 4 (some (12, false)),
 mk (some 24) (.unOp .not 4 (.tmp 23)) 4 (some (12, false)),
 op1 25 (.pick (.tmp 18) (.const (.bool true)) (.tmp 24)) 4,
 mv 26 25 4,
 mk (some 27) (.fieldAddr 27 (.tmp 2) 3) 0 (some (20, false)),
 mk (some 28) (.load 24 (.tmp 27)) 24 (some (20, false)),
 mk (some 29) (.fieldAddr 27 (.tmp 3) 3) 0 (some (20, false)),
 mk (some 30) (.load 24 (.tmp 29)) 24 (some (20, false)),
 mk (some 31) (.call { callee := (.value (.func 81)), args := #[(.tmp 28), (.tmp 30)], argTypes := #[24, 24] }) 4 (some (20, false)),
 mk (some 32) (.unOp .not 4 (.tmp 31)) 4 (some (20, false)),
 op1 33 (.pick (.tmp 26) (.const (.bool true)) (.tmp 32)) 4,
 mv 34 33 4,
 mk (some 35) (.fieldAddr 27 (.tmp 2) 4) 0 (some (28, false)),
 mk (some 36) (.load 25 (.tmp 35)) 25 (some (28, false)),
 mk (some 37) (.call { callee := (.builtin .len), args := #[(.tmp 36)], argTypes := #[25] }) 3 (some (28, false)),
 mk (some 38) (.fieldAddr 27 (.tmp 3) 4) 0 (some (28, false)),
 mk (some 39) (.load 25 (.tmp 38)) 25 (some (28, false)),
 mk (some 40) (.call { callee := (.builtin .len), args := #[(.tmp 39)], argTypes := #[25] }) 3 (some (28, false)),
 mk (some 41) (.binOp .neq 3 (.tmp 37) (.tmp 40) 3) 4 (some (28, false)),
 op1 42 (.pick (.tmp 34) (.const (.bool true)) (.tmp 41)) 4] fr st (.seq c25_5 k)) ∧
 evK gS fi25 c25_26 fr st k = drwR gS fi25 r25_26 q25_26 fr st k ∧
 evK gS fi25 c25_28 fr st k = opsR gS fi25 [op1 4 (.assign (.const (.bool false))) 4] fr st (.seq .ret k) ∧
 evK gS fi25 c25_27 fr st k = condK gS fi25 (fr.op (.tmp 60)).bool? c25_28 .skip fr st k ∧
 evK gS fi25 c25_25 fr st k = evK gS fi25 c25_26 fr st (.seq c25_27 k) ∧
 (evK gS fi25 c25_23 fr st k = opsR gS fi25 [mv 48 46 3,
 asn 5 48 3] fr st (.seq c25_25 k)) ∧
 (evK gS fi25 c25_32 fr st k = opsR gS fi25 [op1 61 (.binOp .add 3 (.tmp 46) (.const (.int .i64 1)) 3) 3,
 mv 46 61 3] fr st k) ∧
 evK gS fi25 c25_21 fr st k = evK gS fi25 c25_23 fr st (.blk 1 (.seq c25_32 k)) ∧
 evK gS fi25 c25_17 fr st k = condK gS fi25 (fr.op (.tmp 47)).bool? .skip (.exit 0) fr st (.seq c25_21 k) ∧
 evK gS fi25 c25_15 fr st k = opsR gS fi25 [bop 47 .lss 3 46 45 3 0] fr st (.seq c25_17 k) ∧
 evK gS fi25 c25_13 fr st k = evK gS fi25 c25_14 fr st (.blk 0 k) ∧
 (evK gS fi25 c25_11 fr st k = opsR gS fi25 [op1 43 (.fieldAddr 27 (.tmp 2) 4) 0,
 ld 44 25 43 25,
 len1 45 44 25 3,
 op1 46 (.move (.const (.int .i64 0))) 3] fr st (.seq c25_13 k)) ∧
 evK gS fi25 c25_33 fr st k = opsR gS fi25 [op1 4 (.assign (.const (.bool true))) 4] fr st (.seq .ret k) ∧
 evK gS fi25 c25_10 fr st k = evK gS fi25 c25_11 fr st (.seq c25_33 k) ∧
 evK gS fi25 c25_2 fr st k = evK gS fi25 c25_3 fr st (.seq c25_10 k) ∧
 (evK gS fi25 c25_0 fr st k = opsR gS fi25 [op1 2 (.box 27 (.tmp 0)) 0,
 op1 3 (.box 27 (.tmp 1)) 0,
 op1 4 (.assign (.const (.bool false))) 4] fr st (.seq c25_2 k)) := ⟨evK_rs 2 rfl (by kernel_rfl), rfl, evK_rs 1 rfl (by kernel_rfl), evK_dr 6 rfl (by kernel_rfl) (by kernel_rfl), evK_rs 7 rfl (by kernel_rfl), rfl, rfl, evK_rs 5 rfl (by kernel_rfl), evK_r 8 (by kernel_rfl), rfl, rfl, evK_rs 4 rfl (by kernel_rfl), rfl, evK_rs 3 rfl (by kernel_rfl), evK_rs 9 rfl (by kernel_rfl), rfl, rfl, evK_rs 0 rfl (by kernel_rfl)⟩
theorem m25 : mini fi25.body = c25_0 := by kernel_rfl
theorem n25_14 (fr : Fr) (st : St) (k : Kt) : nextK gS fi25 (.loop c25_15 k) .normal fr st = evK gS fi25 c25_14 fr st k := rfl
set_option maxHeartbeats 4000000 in
theorem L25_14 (a : Pred) (b : Pred) (h_a : a.ok) (st : St) : ∀ (n i : Nat) (j : Int) (m : Int) (e0 e1 e4 e5 : E) (T : List (Nat × E)) (X : List (Nat × List V)) (ht0 : e0.Tame) (ht1 : e1.Tame) (ht4 : e4.Tame) (ht5 : e5.Tame) (hx2 : lk X 2 = some [.str a.name, .int .i64 a.test, .int .i64 a.v.kind, .int .i64 a.v.n, .float .f64 a.v.x, .str a.v.s, .bool a.v.b, .int .i64 a.w.kind, .int .i64 a.w.n, .float .f64 a.w.x, .str a.w.s, .bool a.w.b, .slice (encVals a.set)]) (hx3 : lk X 3 = some [.str b.name, .int .i64 b.test, .int .i64 b.v.kind, .int .i64 b.v.n, .float .f64 b.v.x, .str b.v.s, .bool b.v.b, .int .i64 b.w.kind, .int .i64 b.w.n, .float .f64 b.w.x, .str b.w.s, .bool b.w.b, .slice (encVals b.set)]) (hlen : a.set.length = b.set.length) (hm45 : m = ((a.set.length : Nat) : Int)), j = (i : Int) → i ≤ (a.set).length → (a.set).length - i = n →
    evK gS fi25 c25_14 { ps := [(0, e0), (1, e1), (2, .lp 2 0), (3, .lp 3 0), (4, e4), (5, e5), (45, .val (.int .i64 m)), (46, .val (.int .i64 j))], ts := T, lc := X } st (.blk 0 (.seq c25_33 .nil)) = some ((.ret (.bool (sames (a.set.drop i) (b.set.drop i))) none), st) := by
  intro n
  have hm : fi25.marks = [] := rfl
  have hl : fi25.locals = [2, 3] := rfl
  have hr : fi25.results = [.tmp 4] := rfl
  have hao := h_a.2
  induction n with
  | zero =>
    intro i j m e0 e1 e4 e5 T X ht0 ht1 ht4 ht5 hx2 hx3 hlen hm45 hj hi hn
    obtain rfl : i = (a.set).length := by omega
    subst hj
    subst hm45
    have hz : b.set.drop a.set.length = [] := List.drop_eq_nil_of_le (by omega)
    refine evK_loop c25_15 _ st _ _ rfl ?_
    simp (config := { contextual := true, maxSteps := 10000000, maxDischargeDepth := 6 }) [-Int.not_le, -Int.not_lt, -Nat.not_le, -Nat.not_lt, ty3, ty4, ty9, ty24, ty25, ty27, eq24, hm, hl, hr, k81, x81, fi81_eq, p81, E25, q25_26, n25_14, ht0, ht1, ht4, ht5, hx2, hx3, hz]
    all_goals try simp (config := { contextual := true }) [-Int.not_le, -Int.not_lt, -Nat.not_le, -Nat.not_lt, sames]
    all_goals first | done | grind | omega | (trace_state; fail)
  | succ n ih =>
    intro i j m e0 e1 e4 e5 T X ht0 ht1 ht4 ht5 hx2 hx3 hlen hm45 hj hi hn
    subst hj
    obtain ⟨x, hx⟩ : ∃ x, (a.set)[i]? = some x := ⟨(a.set)[i]'(by omega), List.getElem?_eq_getElem (by omega)⟩
    have hd := drop_get hx
    have hlt : (i : Int) < ((a.set).length : Int) := by omega
    have hlt2 : i < (a.set).length := by omega
    have hxe : (a.set)[i]'hlt2 = x := by rw [List.getElem?_eq_getElem hlt2] at hx; exact Option.some.inj hx
    have hw : IntKind.wrap .i64 ((i : Int) + 1) = (i : Int) + 1 := wrap64 (by omega) (by omega)
    subst hm45
    obtain ⟨y, hy⟩ : ∃ y, (b.set)[i]? = some y := ⟨(b.set)[i]'(by omega), List.getElem?_eq_getElem (by omega)⟩
    have hyd := drop_get hy
    have hyl : i < (b.set).length := by omega
    have hye : (b.set)[i]'hyl = y := by rw [List.getElem?_eq_getElem hyl] at hy; exact Option.some.inj hy
    have IH := fun m e0 e1 e4 e5 T X ht0 ht1 ht4 ht5 hx2 hx3 hlen hm45 => ih (i + 1) ((i : Int) + 1) m e0 e1 e4 e5 T X ht0 ht1 ht4 ht5 hx2 hx3 hlen hm45 rfl (by omega) (by omega)
    refine evK_loop c25_15 _ st _ _ rfl ?_
    simp (config := { contextual := true, maxSteps := 10000000, maxDischargeDepth := 6 }) [-Int.not_le, -Int.not_lt, -Nat.not_le, -Nat.not_lt, ty3, ty4, ty9, ty24, ty25, ty27, eq24, hm, hl, hr, k81, x81, fi81_eq, p81, E25, q25_26, n25_14, ht0, ht1, ht4, ht5, hx2, hx3, hx, hxe, hd, hlt, hlt2, hw, IH, hy, hye, hyd, hlen]
    all_goals try simp (config := { contextual := true }) [-Int.not_le, -Int.not_lt, -Nat.not_le, -Nat.not_lt, sames]
    all_goals first | done | grind | omega | (trace_state; fail)
set_option maxHeartbeats 4000000 in
theorem c25 (a : Pred) (b : Pred)  (h_a : Pred.ok a) (h_b : Pred.ok b) (st : St) : EvF gS 25 [a.enc, b.enc] st = some (.ret (.bool (psame a b)) none, st) := by
  refine EvF_start fi25_eq (fun x h => by cases h) m25 ?_
  rw [st25]
  have hm : fi25.marks = [] := rfl
  have hl : fi25.locals = [2, 3] := rfl
  have hr : fi25.results = [.tmp 4] := rfl
  simp (config := { contextual := true, maxSteps := 10000000, maxDischargeDepth := 6 }) [-Int.not_le, -Int.not_lt, -Nat.not_le, -Nat.not_lt, ty3, ty4, ty9, ty24, ty25, ty27, eq24, hm, hl, hr, k81, x81, fi81_eq, p81, E25, q25_26, n25_14, (fun m e0 e1 e4 e5 T X ht0 ht1 ht4 ht5 hx2 hx3 hlen hm45 => L25_14 a b h_a st _ 0 0  m e0 e1 e4 e5 T X ht0 ht1 ht4 ht5 hx2 hx3 hlen hm45 rfl (Nat.zero_le _) rfl), h_a.1, h_a.2, h_b.1, h_b.2]
  all_goals try simp (config := { contextual := true }) [-Int.not_le, -Int.not_lt, -Nat.not_le, -Nat.not_lt, psame, sames_ne]
  all_goals first | done | grind | omega | (trace_state; fail)
theorem k25 (a_name : List UInt8) (a_test : Int) (a_vk : Int) (a_vn : Int) (a_vx : Nat) (a_vs : List UInt8) (a_vb : Bool) (a_wk : Int) (a_wn : Int) (a_wx : Nat) (a_ws : List UInt8) (a_wb : Bool) (a_set : List Val) (b_name : List UInt8) (b_test : Int) (b_vk : Int) (b_vn : Int) (b_vx : Nat) (b_vs : List UInt8) (b_vb : Bool) (b_wk : Int) (b_wn : Int) (b_wx : Nat) (b_ws : List UInt8) (b_wb : Bool) (b_set : List Val)  (h_a : Pred.ok (⟨a_name, a_test, ⟨a_vk, a_vn, a_vx, a_vs, a_vb⟩, ⟨a_wk, a_wn, a_wx, a_ws, a_wb⟩, a_set⟩ : Pred)) (h_b : Pred.ok (⟨b_name, b_test, ⟨b_vk, b_vn, b_vx, b_vs, b_vb⟩, ⟨b_wk, b_wn, b_wx, b_ws, b_wb⟩, b_set⟩ : Pred)) (fr : Fr) (st : St) : callStep gS (EvF gS) 25 [.agg [.str a_name, .int .i64 a_test, .int .i64 a_vk, .int .i64 a_vn, .float .f64 a_vx, .str a_vs, .bool a_vb, .int .i64 a_wk, .int .i64 a_wn, .float .f64 a_wx, .str a_ws, .bool a_wb, .slice (encVals a_set)], .agg [.str b_name, .int .i64 b_test, .int .i64 b_vk, .int .i64 b_vn, .float .f64 b_vx, .str b_vs, .bool b_vb, .int .i64 b_wk, .int .i64 b_wn, .float .f64 b_wx, .str b_ws, .bool b_wb, .slice (encVals b_set)]] fr st = some (.ok (retE none (.bool (psame (⟨a_name, a_test, ⟨a_vk, a_vn, a_vx, a_vs, a_vb⟩, ⟨a_wk, a_wn, a_wx, a_ws, a_wb⟩, a_set⟩ : Pred) (⟨b_name, b_test, ⟨b_vk, b_vn, b_vx, b_vs, b_vb⟩, ⟨b_wk, b_wn, b_wx, b_ws, b_wb⟩, b_set⟩ : Pred)))) fr st) :=
  call_pure rfl fi25_eq rfl (fun st => c25 (⟨a_name, a_test, ⟨a_vk, a_vn, a_vx, a_vs, a_vb⟩, ⟨a_wk, a_wn, a_wx, a_ws, a_wb⟩, a_set⟩ : Pred) (⟨b_name, b_test, ⟨b_vk, b_vn, b_vx, b_vs, b_vb⟩, ⟨b_wk, b_wn, b_wx, b_ws, b_wb⟩, b_set⟩ : Pred) h_a h_b st) (by simp)
theorem x25 : gS.ext 25 = none := rfl
theorem p25 : fi25.pure = true := rfl
def fi83 : FI := { body := codeOf Try.f83, ntmps := 27, results := [.tmp 4], pers := [0, 1, 4, 5], locals := [], pure := true, marks := [] }
theorem fi83_eq : gS.fn 83 = some fi83 := by kernel_rfl
theorem st83 (a0 a1 : V) : startFr fi83 [a0, a1] = { ps := [(0, .val a0), (1, .val a1), (4, .any), (5, .any)], ts := [], lc := [] } := rfl
def b83 : Code := mini (codeOf Try.f83)
def c83_6 : Code := .seq (codeN b83 37) .ret
def c83_5 : Code := .cond (.tmp 10) c83_6 .skip
def c83_3 : Code := .seq (codeN b83 9) c83_5
def c83_18 : Code := .cond (.tmp 14) .skip (.exit 0)
def c83_16 : Code := .seq (codeN b83 267) c83_18
def r83_24 : Array Oper := regOps (codeN (codeOf Try.f83) 1099)
def c83_24 : Code := .region 6 r83_24 true
def q83_24 : List (Oper × Fl) := [(mv 17 0 25, ⟨true, false, true, false, false, false, true, true, false, false, []⟩),
 (mv 18 5 3, ⟨true, false, true, false, false, false, true, true, false, false, []⟩),
 (ixa 19 25 17 18 0, ⟨true, false, true, false, false, false, true, true, false, false, []⟩),
 (ld 20 24 19 24, ⟨true, false, true, false, false, false, true, true, false, false, []⟩),
 (mv 21 1 25, ⟨true, false, true, false, false, false, true, true, false, false, []⟩),
 (mv 22 5 3, ⟨true, false, true, false, true, false, true, true, false, false, []⟩),
 (ixa 23 25 21 22 0, ⟨true, false, true, false, true, false, true, true, false, false, []⟩),
 (ld 24 24 23 24, ⟨true, false, true, false, true, false, true, true, false, false, []⟩),
 (cal 25 82 [(.tmp 20), (.tmp 24)] [24, 24] 4, ⟨true, true, true, false, true, true, true, true, false, false, []⟩),
 (op1 26 (.unOp .not 4 (.tmp 25)) 4, ⟨true, true, true, false, true, false, true, true, false, false, []⟩)]
def c83_26 : Code := .seq (codeN b83 4683) .ret
def c83_25 : Code := .cond (.tmp 26) c83_26 .skip
def c83_23 : Code := .seq c83_24 c83_25
def c83_30 : Code := codeN b83 459
def c83_21 : Code := .seq (.block 1 c83_23) c83_30
def c83_15 : Code := .seq c83_16 c83_21
def c83_14 : Code := .loop c83_15
def c83_13 : Code := .block 0 c83_14
def c83_11 : Code := .seq (codeN b83 19) c83_13
def c83_31 : Code := .seq (codeN b83 23) .ret
def c83_10 : Code := .seq c83_11 c83_31
def c83_2 : Code := .seq c83_3 c83_10
def c83_0 : Code := .seq (codeN b83 2) c83_2
theorem E83 : evK gS fi83 c83_6 fr st k = opsR gS fi83 [op1 4 (.assign (.const (.bool false))) 4] fr st (.seq .ret k) ∧
 evK gS fi83 c83_5 fr st k = condK gS fi83 (fr.op (.tmp 10)).bool? c83_6 .skip fr st k ∧
 (evK gS fi83 c83_3 fr st k = opsR gS fi83 [mv 6 0 25,
 len1 7 6 25 3,
 mv 8 1 25,
 len1 9 8 25 3,
 bop 10 .neq 3 7 9 3 4] fr st (.seq c83_5 k)) ∧
 evK gS fi83 c83_18 fr st k = condK gS fi83 (fr.op (.tmp 14)).bool? .skip (.exit 0) fr st k ∧
 (evK gS fi83 c83_16 fr st k = opsR gS fi83 [mv 11 5 3,
 mv 12 0 25,
 len1 13 12 25 3,
 bop 14 .lss 3 11 13 3 4] fr st (.seq c83_18 k)) ∧
 evK gS fi83 c83_24 fr st k = drwR gS fi83 r83_24 q83_24 fr st k ∧
 evK gS fi83 c83_26 fr st k = opsR gS fi83 [op1 4 (.assign (.const (.bool false))) 4] fr st (.seq .ret k) ∧
 evK gS fi83 c83_25 fr st k = condK gS fi83 (fr.op (.tmp 26)).bool? c83_26 .skip fr st k ∧
 evK gS fi83 c83_23 fr st k = evK gS fi83 c83_24 fr st (.seq c83_25 k) ∧
 (evK gS fi83 c83_30 fr st k = opsR gS fi83 [mv 15 5 3,
 op1 16 (.binOp .add 3 (.tmp 15) (.const (.int .i64 1)) 3) 3,
 asn 5 16 3] fr st k) ∧
 evK gS fi83 c83_21 fr st k = evK gS fi83 c83_23 fr st (.blk 1 (.seq c83_30 k)) ∧
 evK gS fi83 c83_15 fr st k = evK gS fi83 c83_16 fr st (.seq c83_21 k) ∧
 evK gS fi83 c83_13 fr st k = evK gS fi83 c83_14 fr st (.blk 0 k) ∧
 evK gS fi83 c83_11 fr st k = opsR gS fi83 [op1 5 (.assign (.const (.int .i64 0))) 3] fr st (.seq c83_13 k) ∧
 evK gS fi83 c83_31 fr st k = opsR gS fi83 [op1 4 (.assign (.const (.bool true))) 4] fr st (.seq .ret k) ∧
 evK gS fi83 c83_10 fr st k = evK gS fi83 c83_11 fr st (.seq c83_31 k) ∧
 evK gS fi83 c83_2 fr st k = evK gS fi83 c83_3 fr st (.seq c83_10 k) ∧
 evK gS fi83 c83_0 fr st k = opsR gS fi83 [op1 4 (.assign (.const (.bool false))) 4] fr st (.seq c83_2 k) := ⟨evK_rs 2 rfl (by kernel_rfl), rfl, evK_rs 1 rfl (by kernel_rfl), rfl, evK_rs 4 rfl (by kernel_rfl), evK_dr 6 rfl (by kernel_rfl) (by kernel_rfl), evK_rs 7 rfl (by kernel_rfl), rfl, rfl, evK_r 5 (by kernel_rfl), rfl, rfl, rfl, evK_rs 3 rfl (by kernel_rfl), evK_rs 8 rfl (by kernel_rfl), rfl, rfl, evK_rs 0 rfl (by kernel_rfl)⟩
theorem m83 : mini fi83.body = c83_0 := by kernel_rfl
theorem n83_14 (fr : Fr) (st : St) (k : Kt) : nextK gS fi83 (.loop c83_15 k) .normal fr st = evK gS fi83 c83_14 fr st k := rfl
set_option maxHeartbeats 4000000 in
theorem L83_14 (a : List Val) (b : List Val) (h_a : a.length < 4611686018427387904) (st : St) : ∀ (n i : Nat) (j : Int)  (e4 : E) (T : List (Nat × E)) (X : List (Nat × List V)) (ht4 : e4.Tame) (hlen : a.length = b.length), j = (i : Int) → i ≤ (a).length → (a).length - i = n →
    evK gS fi83 c83_14 { ps := [(0, .val (.slice (encVals a))), (1, .val (.slice (encVals b))), (4, e4), (5, .val (.int .i64 j))], ts := T, lc := X } st (.blk 0 (.seq c83_31 .nil)) = some ((.ret (.bool (sames (a.drop i) (b.drop i))) none), st) := by
  intro n
  have hm : fi83.marks = [] := rfl
  have hl : fi83.locals = [] := rfl
  have hr : fi83.results = [.tmp 4] := rfl
  induction n with
  | zero =>
    intro i j  e4 T X ht4 hlen hj hi hn
    obtain rfl : i = (a).length := by omega
    subst hj
    have hz : b.drop a.length = [] := List.drop_eq_nil_of_le (by omega)
    refine evK_loop c83_15 _ st _ _ rfl ?_
    simp (config := { contextual := true, maxSteps := 10000000, maxDischargeDepth := 6 }) [-Int.not_le, -Int.not_lt, -Nat.not_le, -Nat.not_lt, ty3, ty4, ty24, ty25, eq24, hm, hl, hr, k82, x82, fi82_eq, p82, E83, q83_24, n83_14, ht4, hz]
    all_goals try simp (config := { contextual := true }) [-Int.not_le, -Int.not_lt, -Nat.not_le, -Nat.not_lt, sames]
    all_goals first | done | grind | omega | (trace_state; fail)
  | succ n ih =>
    intro i j  e4 T X ht4 hlen hj hi hn
    subst hj
    obtain ⟨x, hx⟩ : ∃ x, (a)[i]? = some x := ⟨(a)[i]'(by omega), List.getElem?_eq_getElem (by omega)⟩
    have hd := drop_get hx
    have hlt : (i : Int) < ((a).length : Int) := by omega
    have hlt2 : i < (a).length := by omega
    have hxe : (a)[i]'hlt2 = x := by rw [List.getElem?_eq_getElem hlt2] at hx; exact Option.some.inj hx
    have hw : IntKind.wrap .i64 ((i : Int) + 1) = (i : Int) + 1 := wrap64 (by omega) (by omega)
    obtain ⟨y, hy⟩ : ∃ y, (b)[i]? = some y := ⟨(b)[i]'(by omega), List.getElem?_eq_getElem (by omega)⟩
    have hyd := drop_get hy
    have hyl : i < (b).length := by omega
    have hye : (b)[i]'hyl = y := by rw [List.getElem?_eq_getElem hyl] at hy; exact Option.some.inj hy
    have IH := fun e4 T X ht4 hlen => ih (i + 1) ((i : Int) + 1) e4 T X ht4 hlen rfl (by omega) (by omega)
    refine evK_loop c83_15 _ st _ _ rfl ?_
    simp (config := { contextual := true, maxSteps := 10000000, maxDischargeDepth := 6 }) [-Int.not_le, -Int.not_lt, -Nat.not_le, -Nat.not_lt, ty3, ty4, ty24, ty25, eq24, hm, hl, hr, k82, x82, fi82_eq, p82, E83, q83_24, n83_14, ht4, hx, hxe, hd, hlt, hlt2, hw, IH, hy, hye, hyd, hlen]
    all_goals try simp (config := { contextual := true }) [-Int.not_le, -Int.not_lt, -Nat.not_le, -Nat.not_lt, sames]
    all_goals first | done | grind | omega | (trace_state; fail)
set_option maxHeartbeats 4000000 in
theorem c83 (a : List Val) (b : List Val)  (h_a : a.length < 4611686018427387904) (h_b : b.length < 4611686018427387904) (st : St) : EvF gS 83 [.slice (encVals a), .slice (encVals b)] st = some (.ret (.bool (sames a b)) none, st) := by
  refine EvF_start fi83_eq (fun x h => by cases h) m83 ?_
  rw [st83]
  have hm : fi83.marks = [] := rfl
  have hl : fi83.locals = [] := rfl
  have hr : fi83.results = [.tmp 4] := rfl
  simp (config := { contextual := true, maxSteps := 10000000, maxDischargeDepth := 6 }) [-Int.not_le, -Int.not_lt, -Nat.not_le, -Nat.not_lt, ty3, ty4, ty24, ty25, eq24, hm, hl, hr, k82, x82, fi82_eq, p82, E83, q83_24, n83_14, (fun e4 T X ht4 hlen => L83_14 a b h_a st _ 0 0  e4 T X ht4 hlen rfl (Nat.zero_le _) rfl), h_a, h_b]
  all_goals try simp (config := { contextual := true }) [-Int.not_le, -Int.not_lt, -Nat.not_le, -Nat.not_lt, sames_ne]
  all_goals first | done | grind | omega | (trace_state; fail)
theorem k83 (a : List Val) (b : List Val)  (h_a : a.length < 4611686018427387904) (h_b : b.length < 4611686018427387904) (fr : Fr) (st : St) : callStep gS (EvF gS) 83 [.slice (encVals a), .slice (encVals b)] fr st = some (.ok (retE none (.bool (sames a b))) fr st) :=
  call_pure rfl fi83_eq rfl (fun st => c83 a b h_a h_b st) (by simp)
theorem x83 : gS.ext 83 = none := rfl
theorem p83 : fi83.pure = true := rfl
def fi26 : FI := { body := codeOf Try.f26, ntmps := 38, results := [.tmp 4], pers := [0, 1, 2, 3, 4], locals := [2, 3], pure := true, marks := [] }
theorem fi26_eq : gS.fn 26 = some fi26 := by kernel_rfl
theorem st26 (a0 a1 : V) : startFr fi26 [a0, a1] = { ps := [(0, .val a0), (1, .val a1), (2, .any), (3, .any), (4, .any)], ts := [], lc := [] } := rfl
def b26 : Code := mini (codeOf Try.f26)
def c26_2 : Code := .seq (codeN b26 5) .ret
theorem e26_2 : evK gS fi26 c26_2 fr st k = opsR gS fi26 [op1 5 (.fieldAddr 27 (.tmp 2) 0) 0,
 ld 6 9 5 9,
 op1 7 (.fieldAddr 27 (.tmp 3) 0) 0,
 ld 8 9 7 9,
 bop 9 .eql 9 6 8 9 4,
 mv 10 9 4,
 mk (some 11) (.fieldAddr 27 (.tmp 2) 1) 0 (some (5, true)),
 mk (some 12) (.load 3 (.tmp 11)) 3 (some (5, true)),
 mk (some 13) (.fieldAddr 27 (.tmp 3) 1) 0 (some (5, true)),
 mk (some 14) (.load 3 (.tmp 13)) 3 (some (5, true)),
 mk (some 15) (.binOp .eql 3 (.tmp 12) (.tmp 14) 3) 4 (some (5, true)),
 op1 16 (.pick (.tmp 10) (.tmp 15) (.const (.bool false))) 4,
 mv 17 16 4,
 mk (some 18) (.fieldAddr 27 (.tmp 2) 2) 0 (some (12, true)),
 mk (some 19) (.load 24 (.tmp 18)) 24 (some (12, true)),
 mk (some 20) (.fieldAddr 27 (.tmp 3) 2) 0 (some (12, true)),
 mk (some 21) (.load 24 (.tmp 20)) 24 (some (12, true)),
 mk (some 22) (.call { callee := (.value (.func 82)), args := #[(.tmp 19), (.tmp 21)], argTypes := #[24, 24] }) 4 (some (12, true)),
 op1 23 (.pick (.tmp 17) (.tmp 22) (.const (.bool false))) 4,
 mv 24 23 4,
 mk (some 25) (.fieldAddr 27 (.tmp 2) 3) 0 (some (19, true)),
 mk (some 26) (.load 24 (.tmp 25)) 24 (some (19, true)),
 mk (some 27) (.fieldAddr 27 (.tmp 3) 3) 0 (some (19, true)),
 mk (some 28) (.load 24 (.tmp 27)) 24 (some (19, true)),
 mk (some 29) (.call { callee := (.value (.func 82)), args := #[(.tmp 26), (.tmp 28)], argTypes := #[24, 24] }) 4 (some (19, true)),
 op1 30 (.pick (.tmp 24) (.tmp 29) (.const (.bool false))) 4,
 mv 31 30 4,
 mk (some 32) (.fieldAddr 27 (.tmp 2) 4) 0 (some (26, true)),
 mk (some 33) (.load 25 (.tmp 32)) 25 (some (26, true)),
 mk (some 34) (.fieldAddr 27 (.tmp 3) 4) 0 (some (26, true)),
 mk (some 35) (.load 25 (.tmp 34)) 25 (some (26, true)),
 mk (some 36) (.call { callee := (.value (.func 83)), args := #[(.tmp 33), (.tmp 35)], argTypes := #[25, 25] }) 4 (some (26, true)),
 op1 37 (.pick (.tmp 31) (.tmp 36) (.const (.bool false))) 4,
 asn 4 37 4] fr st (.seq .ret k) := evK_rs 1 rfl (by kernel_rfl)
def c26_0 : Code := .seq (codeN b26 2) c26_2
theorem e26_0 : evK gS fi26 c26_0 fr st k = opsR gS fi26 [op1 2 (.box 27 (.tmp 0)) 0,
 op1 3 (.box 27 (.tmp 1)) 0,
 op1 4 (.assign (.const (.bool false))) 4] fr st (.seq c26_2 k) := evK_rs 0 rfl (by kernel_rfl)
theorem m26 : mini fi26.body = c26_0 := by kernel_rfl
set_option maxHeartbeats 4000000 in
theorem c26 (a : Pred) (b : Pred)  (h_a : Pred.ok a) (h_b : Pred.ok b) (st : St) : EvF gS 26 [a.enc, b.enc] st = some (.ret (.bool (psame a b)) none, st) := by
  refine EvF_start fi26_eq (fun x h => by cases h) m26 ?_
  rw [st26]
  have hm : fi26.marks = [] := rfl
  have hl : fi26.locals = [2, 3] := rfl
  have hr : fi26.results = [.tmp 4] := rfl
  simp (config := { contextual := true, maxSteps := 10000000, maxDischargeDepth := 6 }) [-Int.not_le, -Int.not_lt, -Nat.not_le, -Nat.not_lt, ty3, ty4, ty9, ty24, ty25, ty27, eq24, hm, hl, hr, k82, k83, e26_2, e26_0, h_a.1, h_a.2, h_b.1, h_b.2]
  all_goals try simp (config := { contextual := true }) [-Int.not_le, -Int.not_lt, -Nat.not_le, -Nat.not_lt, psame]
  all_goals first | done | grind | omega | (trace_state; fail)
theorem k26 (a_name : List UInt8) (a_test : Int) (a_vk : Int) (a_vn : Int) (a_vx : Nat) (a_vs : List UInt8) (a_vb : Bool) (a_wk : Int) (a_wn : Int) (a_wx : Nat) (a_ws : List UInt8) (a_wb : Bool) (a_set : List Val) (b_name : List UInt8) (b_test : Int) (b_vk : Int) (b_vn : Int) (b_vx : Nat) (b_vs : List UInt8) (b_vb : Bool) (b_wk : Int) (b_wn : Int) (b_wx : Nat) (b_ws : List UInt8) (b_wb : Bool) (b_set : List Val)  (h_a : Pred.ok (⟨a_name, a_test, ⟨a_vk, a_vn, a_vx, a_vs, a_vb⟩, ⟨a_wk, a_wn, a_wx, a_ws, a_wb⟩, a_set⟩ : Pred)) (h_b : Pred.ok (⟨b_name, b_test, ⟨b_vk, b_vn, b_vx, b_vs, b_vb⟩, ⟨b_wk, b_wn, b_wx, b_ws, b_wb⟩, b_set⟩ : Pred)) (fr : Fr) (st : St) : callStep gS (EvF gS) 26 [.agg [.str a_name, .int .i64 a_test, .int .i64 a_vk, .int .i64 a_vn, .float .f64 a_vx, .str a_vs, .bool a_vb, .int .i64 a_wk, .int .i64 a_wn, .float .f64 a_wx, .str a_ws, .bool a_wb, .slice (encVals a_set)], .agg [.str b_name, .int .i64 b_test, .int .i64 b_vk, .int .i64 b_vn, .float .f64 b_vx, .str b_vs, .bool b_vb, .int .i64 b_wk, .int .i64 b_wn, .float .f64 b_wx, .str b_ws, .bool b_wb, .slice (encVals b_set)]] fr st = some (.ok (retE none (.bool (psame (⟨a_name, a_test, ⟨a_vk, a_vn, a_vx, a_vs, a_vb⟩, ⟨a_wk, a_wn, a_wx, a_ws, a_wb⟩, a_set⟩ : Pred) (⟨b_name, b_test, ⟨b_vk, b_vn, b_vx, b_vs, b_vb⟩, ⟨b_wk, b_wn, b_wx, b_ws, b_wb⟩, b_set⟩ : Pred)))) fr st) :=
  call_pure rfl fi26_eq rfl (fun st => c26 (⟨a_name, a_test, ⟨a_vk, a_vn, a_vx, a_vs, a_vb⟩, ⟨a_wk, a_wn, a_wx, a_ws, a_wb⟩, a_set⟩ : Pred) (⟨b_name, b_test, ⟨b_vk, b_vn, b_vx, b_vs, b_vb⟩, ⟨b_wk, b_wn, b_wx, b_ws, b_wb⟩, b_set⟩ : Pred) h_a h_b st) (by simp)
theorem x26 : gS.ext 26 = none := rfl
theorem p26 : fi26.pure = true := rfl
def fi84 : FI := { body := codeOf Try.f84, ntmps := 11, results := [.tmp 4], pers := [0, 1, 2, 3, 4], locals := [2, 3], pure := true, marks := [] }
theorem fi84_eq : gS.fn 84 = some fi84 := by kernel_rfl
theorem st84 (a0 a1 : V) : startFr fi84 [a0, a1] = { ps := [(0, .val a0), (1, .val a1), (2, .any), (3, .any), (4, .any)], ts := [], lc := [] } := rfl
def b84 : Code := mini (codeOf Try.f84)
def c84_4 : Code := .seq (codeN b84 11) .ret
theorem e84_4 : evK gS fi84 c84_4 fr st k = opsR gS fi84 [ld 8 27 2 27,
 ld 9 27 3 27,
 cal 10 25 [(.tmp 8), (.tmp 9)] [27, 27] 4,
 asn 4 10 4] fr st (.seq .ret k) := evK_rs 2 rfl (by kernel_rfl)
def c84_2 : Code := .seq (codeN b84 5) c84_4
theorem e84_2 : evK gS fi84 c84_2 fr st k = opsR gS fi84 [op1 5 (.fieldAddr 27 (.tmp 3) 0) 0,
 ld 6 9 5 9,
 op1 7 (.fieldAddr 27 (.tmp 2) 0) 0,
 sto 9 7 6] fr st (.seq c84_4 k) := evK_rs 1 rfl (by kernel_rfl)
def c84_0 : Code := .seq (codeN b84 2) c84_2
theorem e84_0 : evK gS fi84 c84_0 fr st k = opsR gS fi84 [op1 2 (.box 27 (.tmp 0)) 0,
 op1 3 (.box 27 (.tmp 1)) 0,
 op1 4 (.assign (.const (.bool false))) 4] fr st (.seq c84_2 k) := evK_rs 0 rfl (by kernel_rfl)
theorem m84 : mini fi84.body = c84_0 := by kernel_rfl
set_option maxHeartbeats 4000000 in
theorem c84 (q : Pred) (p : Pred)  (h_q : Pred.ok q) (h_p : Pred.ok p) (st : St) : EvF gS 84 [q.enc, p.enc] st = some (.ret (.bool (decide (q.test = p.test) && vsame q.v p.v && vsame q.w p.w && sames q.set p.set)) none, st) := by
  refine EvF_start fi84_eq (fun x h => by cases h) m84 ?_
  rw [st84]
  have hm : fi84.marks = [] := rfl
  have hl : fi84.locals = [2, 3] := rfl
  have hr : fi84.results = [.tmp 4] := rfl
  simp (config := { contextual := true, maxSteps := 10000000, maxDischargeDepth := 6 }) [-Int.not_le, -Int.not_lt, -Nat.not_le, -Nat.not_lt, ty4, ty9, ty27, hm, hl, hr, k25, e84_4, e84_2, e84_0, h_q.1, h_q.2, h_p.1, h_p.2]
  all_goals try simp (config := { contextual := true }) [-Int.not_le, -Int.not_lt, -Nat.not_le, -Nat.not_lt, psame]
  all_goals first | done | grind | omega | (trace_state; fail)
theorem k84 (q_name : List UInt8) (q_test : Int) (q_vk : Int) (q_vn : Int) (q_vx : Nat) (q_vs : List UInt8) (q_vb : Bool) (q_wk : Int) (q_wn : Int) (q_wx : Nat) (q_ws : List UInt8) (q_wb : Bool) (q_set : List Val) (p_name : List UInt8) (p_test : Int) (p_vk : Int) (p_vn : Int) (p_vx : Nat) (p_vs : List UInt8) (p_vb : Bool) (p_wk : Int) (p_wn : Int) (p_wx : Nat) (p_ws : List UInt8) (p_wb : Bool) (p_set : List Val)  (h_q : Pred.ok (⟨q_name, q_test, ⟨q_vk, q_vn, q_vx, q_vs, q_vb⟩, ⟨q_wk, q_wn, q_wx, q_ws, q_wb⟩, q_set⟩ : Pred)) (h_p : Pred.ok (⟨p_name, p_test, ⟨p_vk, p_vn, p_vx, p_vs, p_vb⟩, ⟨p_wk, p_wn, p_wx, p_ws, p_wb⟩, p_set⟩ : Pred)) (fr : Fr) (st : St) : callStep gS (EvF gS) 84 [.agg [.str q_name, .int .i64 q_test, .int .i64 q_vk, .int .i64 q_vn, .float .f64 q_vx, .str q_vs, .bool q_vb, .int .i64 q_wk, .int .i64 q_wn, .float .f64 q_wx, .str q_ws, .bool q_wb, .slice (encVals q_set)], .agg [.str p_name, .int .i64 p_test, .int .i64 p_vk, .int .i64 p_vn, .float .f64 p_vx, .str p_vs, .bool p_vb, .int .i64 p_wk, .int .i64 p_wn, .float .f64 p_wx, .str p_ws, .bool p_wb, .slice (encVals p_set)]] fr st = some (.ok (retE none (.bool (decide ((⟨q_name, q_test, ⟨q_vk, q_vn, q_vx, q_vs, q_vb⟩, ⟨q_wk, q_wn, q_wx, q_ws, q_wb⟩, q_set⟩ : Pred).test = (⟨p_name, p_test, ⟨p_vk, p_vn, p_vx, p_vs, p_vb⟩, ⟨p_wk, p_wn, p_wx, p_ws, p_wb⟩, p_set⟩ : Pred).test) && vsame (⟨q_name, q_test, ⟨q_vk, q_vn, q_vx, q_vs, q_vb⟩, ⟨q_wk, q_wn, q_wx, q_ws, q_wb⟩, q_set⟩ : Pred).v (⟨p_name, p_test, ⟨p_vk, p_vn, p_vx, p_vs, p_vb⟩, ⟨p_wk, p_wn, p_wx, p_ws, p_wb⟩, p_set⟩ : Pred).v && vsame (⟨q_name, q_test, ⟨q_vk, q_vn, q_vx, q_vs, q_vb⟩, ⟨q_wk, q_wn, q_wx, q_ws, q_wb⟩, q_set⟩ : Pred).w (⟨p_name, p_test, ⟨p_vk, p_vn, p_vx, p_vs, p_vb⟩, ⟨p_wk, p_wn, p_wx, p_ws, p_wb⟩, p_set⟩ : Pred).w && sames (⟨q_name, q_test, ⟨q_vk, q_vn, q_vx, q_vs, q_vb⟩, ⟨q_wk, q_wn, q_wx, q_ws, q_wb⟩, q_set⟩ : Pred).set (⟨p_name, p_test, ⟨p_vk, p_vn, p_vx, p_vs, p_vb⟩, ⟨p_wk, p_wn, p_wx, p_ws, p_wb⟩, p_set⟩ : Pred).set))) fr st) :=
  call_pure rfl fi84_eq rfl (fun st => c84 (⟨q_name, q_test, ⟨q_vk, q_vn, q_vx, q_vs, q_vb⟩, ⟨q_wk, q_wn, q_wx, q_ws, q_wb⟩, q_set⟩ : Pred) (⟨p_name, p_test, ⟨p_vk, p_vn, p_vx, p_vs, p_vb⟩, ⟨p_wk, p_wn, p_wx, p_ws, p_wb⟩, p_set⟩ : Pred) h_q h_p st) (by simp)
def fi21 : FI := { body := codeOf Try.f21, ntmps := 113, results := [.tmp 4], pers := [0, 1, 2, 3, 4, 5, 6, 7, 8, 10, 22, 103, 104, 105], locals := [2, 3, 10], pure := true, marks := [] }
theorem fi21_eq : gS.fn 21 = some fi21 := by kernel_rfl
theorem st21 (a0 a1 : V) : startFr fi21 [a0, a1] = { ps := [(0, .val a0), (1, .val a1), (2, .any), (3, .any), (4, .any), (5, .any), (6, .any), (7, .any), (8, .any), (10, .any), (22, .any), (103, .any), (104, .any), (105, .any)], ts := [], lc := [] } := rfl
def b21 : Code := mini (codeOf Try.f21)
def c21_6 : Code := .seq (codeN b21 37) .ret
def c21_5 : Code := .cond (.tmp 13) c21_6 .skip
def c21_3 : Code := .seq (codeN b21 9) c21_5
def c21_19 : Code := .seq (codeN b21 599) .ret
def c21_25 : Code := .seq (codeN b21 2519) .ret
def c21_31 : Code := .seq (codeN b21 10199) .ret
def c21_37 : Code := .seq (codeN b21 40919) .ret
def c21_43 : Code := .seq (codeN b21 163799) .ret
def c21_49 : Code := .seq (codeN b21 655319) .ret
def c21_55 : Code := .seq (codeN b21 2621399) .ret
def c21_63 : Code := .seq (codeN b21 23068631) .ret
def c21_61 : Code := .seq (codeN b21 10485719) c21_63
def c21_69 : Code := .seq (codeN b21 41942999) .ret
def c21_68 : Code := .cond (.tmp 89) c21_69 .skip
def c21_66 : Code := .seq (codeN b21 12582871) c21_68
def c21_60 : Code := .cond (.tmp 68) c21_61 c21_66
def c21_58 : Code := .seq (codeN b21 3145687) c21_60
def c21_54 : Code := .cond (.tmp 61) c21_55 c21_58
def c21_52 : Code := .seq (codeN b21 786391) c21_54
def c21_48 : Code := .cond (.tmp 54) c21_49 c21_52
def c21_46 : Code := .seq (codeN b21 196567) c21_48
def c21_42 : Code := .cond (.tmp 47) c21_43 c21_46
def c21_40 : Code := .seq (codeN b21 49111) c21_42
def c21_36 : Code := .cond (.tmp 40) c21_37 c21_40
def c21_34 : Code := .seq (codeN b21 12247) c21_36
def c21_30 : Code := .cond (.tmp 32) c21_31 c21_34
def c21_28 : Code := .seq (codeN b21 3031) c21_30
def c21_24 : Code := .cond (.tmp 25) c21_25 c21_28
def c21_22 : Code := .seq (codeN b21 727) c21_24
def c21_18 : Code := .cond (.tmp 23) c21_19 c21_22
def c21_16 : Code := .seq (codeN b21 151) c21_18
def c21_15 : Code := .block 0 c21_16
def c21_13 : Code := .seq (codeN b21 39) c21_15
def c21_91 : Code := .seq (codeN b21 78639) .ret
def c21_90 : Code := .cond (.tmp 111) c21_91 .skip
def c21_88 : Code := .seq (codeN b21 21295) c21_90
def c21_86 : Code := .seq (codeN b21 9007) c21_88
def c21_95 : Code := codeN b21 3887
def c21_84 : Code := .seq (.block 2 c21_86) c21_95
def c21_80 : Code := .seq (.cond (.tmp 106) .skip (.exit 1)) c21_84
def c21_78 : Code := .seq (codeN b21 559) c21_80
def c21_77 : Code := .loop c21_78
def c21_76 : Code := .block 1 c21_77
def c21_74 : Code := .seq (codeN b21 79) c21_76
def c21_96 : Code := .seq (codeN b21 95) .ret
def c21_73 : Code := .seq c21_74 c21_96
def c21_12 : Code := .seq c21_13 c21_73
def c21_10 : Code := .seq (codeN b21 11) c21_12
def c21_2 : Code := .seq c21_3 c21_10
def c21_0 : Code := .seq (codeN b21 2) c21_2
theorem E21 : evK gS fi21 c21_6 fr st k = opsR gS fi21 [op1 4 (.assign (.const (.bool false))) 4] fr st (.seq .ret k) ∧
 evK gS fi21 c21_5 fr st k = condK gS fi21 (fr.op (.tmp 13)).bool? c21_6 .skip fr st k ∧
 (evK gS fi21 c21_3 fr st k = opsR gS fi21 [ld 11 27 2 27,
 cal 12 19 [(.tmp 11)] [27] 4,
 op1 13 (.unOp .not 4 (.tmp 12)) 4] fr st (.seq c21_5 k)) ∧
 evK gS fi21 c21_19 fr st k = opsR gS fi21 [op1 4 (.assign (.const (.bool true))) 4] fr st (.seq .ret k) ∧
 (evK gS fi21 c21_25 fr st k = opsR gS fi21 [mv 27 6 4,
 mv 28 27 4,
 mk (some 29) (.move (.tmp 5)) 3 (some (1, true)),
 mk (some 30) (.binOp .eql 3 (.tmp 29) (.const (.int .i64 0)) 3) 4 (some (1, true)),
 op1 31 (.pick (.tmp 28) (.tmp 30) (.const (.bool false))) 4,
 asn 4 31 4] fr st (.seq .ret k)) ∧
 (evK gS fi21 c21_31 fr st k = opsR gS fi21 [mv 34 6 4,
 mv 35 34 4,
 mk (some 36) (.move (.tmp 5)) 3 (some (1, true)),
 mk (some 37) (.binOp .eql 3 (.tmp 36) (.const (.int .i64 0)) 3) 4 (some (1, true)),
 op1 38 (.pick (.tmp 35) (.tmp 37) (.const (.bool false))) 4,
 op1 39 (.unOp .not 4 (.tmp 38)) 4,
 asn 4 39 4] fr st (.seq .ret k)) ∧
 (evK gS fi21 c21_37 fr st k = opsR gS fi21 [mv 42 6 4,
 mv 43 42 4,
 mk (some 44) (.move (.tmp 5)) 3 (some (1, true)),
 mk (some 45) (.binOp .lss 3 (.tmp 44) (.const (.int .i64 0)) 3) 4 (some (1, true)),
 op1 46 (.pick (.tmp 43) (.tmp 45) (.const (.bool false))) 4,
 asn 4 46 4] fr st (.seq .ret k)) ∧
 (evK gS fi21 c21_43 fr st k = opsR gS fi21 [mv 49 6 4,
 mv 50 49 4,
 mk (some 51) (.move (.tmp 5)) 3 (some (1, true)),
 mk (some 52) (.binOp .leq 3 (.tmp 51) (.const (.int .i64 0)) 3) 4 (some (1, true)),
 op1 53 (.pick (.tmp 50) (.tmp 52) (.const (.bool false))) 4,
 asn 4 53 4] fr st (.seq .ret k)) ∧
 (evK gS fi21 c21_49 fr st k = opsR gS fi21 [mv 56 6 4,
 mv 57 56 4,
 mk (some 58) (.move (.tmp 5)) 3 (some (1, true)),
 mk (some 59) (.binOp .gtr 3 (.tmp 58) (.const (.int .i64 0)) 3) 4 (some (1, true)),
 op1 60 (.pick (.tmp 57) (.tmp 59) (.const (.bool false))) 4,
 asn 4 60 4] fr st (.seq .ret k)) ∧
 (evK gS fi21 c21_55 fr st k = opsR gS fi21 [mv 63 6 4,
 mv 64 63 4,
 mk (some 65) (.move (.tmp 5)) 3 (some (1, true)),
 mk (some 66) (.binOp .geq 3 (.tmp 65) (.const (.int .i64 0)) 3) 4 (some (1, true)),
 op1 67 (.pick (.tmp 64) (.tmp 66) (.const (.bool false))) 4,
 asn 4 67 4] fr st (.seq .ret k)) ∧
 (evK gS fi21 c21_63 fr st k = opsR gS fi21 [mv 77 6 4,
 mv 78 77 4,
 mk (some 79) (.move (.tmp 5)) 3 (some (1, true)),
 mk (some 80) (.binOp .geq 3 (.tmp 79) (.const (.int .i64 0)) 3) 4 (some (1, true)),
 op1 81 (.pick (.tmp 78) (.tmp 80) (.const (.bool false))) 4,
 mv 82 81 4,
 mk (some 83) (.move (.tmp 8)) 4 (some (5, true)),
 op1 84 (.pick (.tmp 82) (.tmp 83) (.const (.bool false))) 4,
 mv 85 84 4,
 mk (some 86) (.move (.tmp 7)) 3 (some (8, true)),
 mk (some 87) (.binOp .leq 3 (.tmp 86) (.const (.int .i64 0)) 3) 4 (some (8, true)),
 op1 88 (.pick (.tmp 85) (.tmp 87) (.const (.bool false))) 4,
 asn 4 88 4] fr st (.seq .ret k)) ∧
 (evK gS fi21 c21_61 fr st k = opsR gS fi21 [ld 71 24 3 24,
 op1 72 (.fieldAddr 27 (.tmp 2) 3) 0,
 ld 73 24 72 24,
 cal 74 75 [(.tmp 71), (.tmp 73)] [24, 24] 94,
 mv 70 74 94,
 op1 75 (.extract (.tmp 70) 0) 3,
 op1 76 (.extract (.tmp 70) 1) 4,
 asn 7 75 3,
 asn 8 76 4] fr st (.seq c21_63 k)) ∧
 (evK gS fi21 c21_69 fr st k = opsR gS fi21 [op1 91 (.fieldAddr 24 (.tmp 3) 0) 0,
 ld 92 3 91 3,
 op1 93 (.binOp .eql 3 (.tmp 92) (.const (.int .i64 3)) 3) 4,
 mv 94 93 4,
 mk (some 95) (.fieldAddr 24 (.tmp 3) 3) 0 (some (3, true)),
 mk (some 96) (.load 9 (.tmp 95)) 9 (some (3, true)),
 mk (some 97) (.fieldAddr 27 (.tmp 2) 2) 0 (some (3, true)),
 mk (some 98) (.fieldAddr 24 (.tmp 97) 3) 0 (some (3, true)),
 mk (some 99) (.load 9 (.tmp 98)) 9 (some (3, true)),
 mk (some 100) (.call { callee := (.value (.func 76)), args := #[(.tmp 96), (.tmp 99)], argTypes := #[9, 9] }) 4 (some (3, true)),
 op1 101 (.pick (.tmp 94) (.tmp 100) (.const (.bool false))) 4,
 asn 4 101 4] fr st (.seq .ret k)) ∧
 evK gS fi21 c21_68 fr st k = condK gS fi21 (fr.op (.tmp 89)).bool? c21_69 .skip fr st k ∧
 (evK gS fi21 c21_66 fr st k = opsR gS fi21 [op1 90 (.binOp .eql 3 (.tmp 22) (.const (.int .i64 9)) 3) 4,
 asn 89 90 4] fr st (.seq c21_68 k)) ∧
 evK gS fi21 c21_60 fr st k = condK gS fi21 (fr.op (.tmp 68)).bool? c21_61 c21_66 fr st k ∧
 (evK gS fi21 c21_58 fr st k = opsR gS fi21 [op1 69 (.binOp .eql 3 (.tmp 22) (.const (.int .i64 8)) 3) 4,
 asn 68 69 4] fr st (.seq c21_60 k)) ∧
 evK gS fi21 c21_54 fr st k = condK gS fi21 (fr.op (.tmp 61)).bool? c21_55 c21_58 fr st k ∧
 (evK gS fi21 c21_52 fr st k = opsR gS fi21 [op1 62 (.binOp .eql 3 (.tmp 22) (.const (.int .i64 7)) 3) 4,
 asn 61 62 4] fr st (.seq c21_54 k)) ∧
 evK gS fi21 c21_48 fr st k = condK gS fi21 (fr.op (.tmp 54)).bool? c21_49 c21_52 fr st k ∧
 (evK gS fi21 c21_46 fr st k = opsR gS fi21 [op1 55 (.binOp .eql 3 (.tmp 22) (.const (.int .i64 6)) 3) 4,
 asn 54 55 4] fr st (.seq c21_48 k)) ∧
 evK gS fi21 c21_42 fr st k = condK gS fi21 (fr.op (.tmp 47)).bool? c21_43 c21_46 fr st k ∧
 (evK gS fi21 c21_40 fr st k = opsR gS fi21 [op1 48 (.binOp .eql 3 (.tmp 22) (.const (.int .i64 5)) 3) 4,
 asn 47 48 4] fr st (.seq c21_42 k)) ∧
 evK gS fi21 c21_36 fr st k = condK gS fi21 (fr.op (.tmp 40)).bool? c21_37 c21_40 fr st k ∧
 (evK gS fi21 c21_34 fr st k = opsR gS fi21 [op1 41 (.binOp .eql 3 (.tmp 22) (.const (.int .i64 4)) 3) 4,
 asn 40 41 4] fr st (.seq c21_36 k)) ∧
 evK gS fi21 c21_30 fr st k = condK gS fi21 (fr.op (.tmp 32)).bool? c21_31 c21_34 fr st k ∧
 (evK gS fi21 c21_28 fr st k = opsR gS fi21 [op1 33 (.binOp .eql 3 (.tmp 22) (.const (.int .i64 3)) 3) 4,
 asn 32 33 4] fr st (.seq c21_30 k)) ∧
 evK gS fi21 c21_24 fr st k = condK gS fi21 (fr.op (.tmp 25)).bool? c21_25 c21_28 fr st k ∧
 (evK gS fi21 c21_22 fr st k = opsR gS fi21 [op1 26 (.binOp .eql 3 (.tmp 22) (.const (.int .i64 2)) 3) 4,
 asn 25 26 4] fr st (.seq c21_24 k)) ∧
 evK gS fi21 c21_18 fr st k = condK gS fi21 (fr.op (.tmp 23)).bool? c21_19 c21_22 fr st k ∧
 (evK gS fi21 c21_16 fr st k = opsR gS fi21 [op1 24 (.binOp .eql 3 (.tmp 22) (.const (.int .i64 1)) 3) 4,
 asn 23 24 4] fr st (.seq c21_18 k)) ∧
 evK gS fi21 c21_15 fr st k = evK gS fi21 c21_16 fr st (.blk 0 k) ∧
 (evK gS fi21 c21_13 fr st k = opsR gS fi21 [op1 21 (.fieldAddr 27 (.tmp 2) 1) 0,
 ld 22 3 21 3] fr st (.seq c21_15 k)) ∧
 evK gS fi21 c21_91 fr st k = opsR gS fi21 [op1 4 (.assign (.const (.bool true))) 4] fr st (.seq .ret k) ∧
 evK gS fi21 c21_90 fr st k = condK gS fi21 (fr.op (.tmp 111)).bool? c21_91 .skip fr st k ∧
 (evK gS fi21 c21_88 fr st k = opsR gS fi21 [ld 109 24 3 24,
 ld 110 24 10 24,
 cal 111 32 [(.tmp 109), (.tmp 110)] [24, 24] 4] fr st (.seq c21_90 k)) ∧
 (evK gS fi21 c21_86 fr st k = opsR gS fi21 [ixa 107 25 103 105 0,
 ld 108 24 107 24,
 op1 10 (.alloc 24) 0,
 sto 24 10 108] fr st (.seq c21_88 k)) ∧
 (evK gS fi21 c21_95 fr st k = opsR gS fi21 [op1 112 (.binOp .add 3 (.tmp 105) (.const (.int .i64 1)) 3) 3,
 mv 105 112 3] fr st k) ∧
 evK gS fi21 c21_84 fr st k = evK gS fi21 c21_86 fr st (.blk 2 (.seq c21_95 k)) ∧
 evK gS fi21 c21_80 fr st k = condK gS fi21 (fr.op (.tmp 106)).bool? .skip (.exit 1) fr st (.seq c21_84 k) ∧
 evK gS fi21 c21_78 fr st k = opsR gS fi21 [bop 106 .lss 3 105 104 3 0] fr st (.seq c21_80 k) ∧
 evK gS fi21 c21_76 fr st k = evK gS fi21 c21_77 fr st (.blk 1 k) ∧
 (evK gS fi21 c21_74 fr st k = opsR gS fi21 [op1 102 (.fieldAddr 27 (.tmp 2) 4) 0,
 ld 103 25 102 25,
 len1 104 103 25 3,
 op1 105 (.move (.const (.int .i64 0))) 3] fr st (.seq c21_76 k)) ∧
 evK gS fi21 c21_96 fr st k = opsR gS fi21 [op1 4 (.assign (.const (.bool false))) 4] fr st (.seq .ret k) ∧
 evK gS fi21 c21_73 fr st k = evK gS fi21 c21_74 fr st (.seq c21_96 k) ∧
 evK gS fi21 c21_12 fr st k = evK gS fi21 c21_13 fr st (.seq c21_73 k) ∧
 (evK gS fi21 c21_10 fr st k = opsR gS fi21 [ld 15 24 3 24,
 op1 16 (.fieldAddr 27 (.tmp 2) 2) 0,
 ld 17 24 16 24,
 cal 18 75 [(.tmp 15), (.tmp 17)] [24, 24] 94,
 mv 14 18 94,
 op1 19 (.extract (.tmp 14) 0) 3,
 op1 20 (.extract (.tmp 14) 1) 4,
 asn 5 19 3,
 asn 6 20 4] fr st (.seq c21_12 k)) ∧
 evK gS fi21 c21_2 fr st k = evK gS fi21 c21_3 fr st (.seq c21_10 k) ∧
 (evK gS fi21 c21_0 fr st k = opsR gS fi21 [op1 2 (.box 27 (.tmp 0)) 0,
 op1 3 (.box 24 (.tmp 1)) 0,
 op1 4 (.assign (.const (.bool false))) 4] fr st (.seq c21_2 k)) := ⟨evK_rs 2 rfl (by kernel_rfl), rfl, evK_rs 1 rfl (by kernel_rfl), evK_rs 6 rfl (by kernel_rfl), evK_rs 8 rfl (by kernel_rfl), evK_rs 10 rfl (by kernel_rfl), evK_rs 12 rfl (by kernel_rfl), evK_rs 14 rfl (by kernel_rfl), evK_rs 16 rfl (by kernel_rfl), evK_rs 18 rfl (by kernel_rfl), evK_rs 21 rfl (by kernel_rfl), evK_rs 20 rfl (by kernel_rfl), evK_rs 23 rfl (by kernel_rfl), rfl, evK_rs 22 rfl (by kernel_rfl), rfl, evK_rs 19 rfl (by kernel_rfl), rfl, evK_rs 17 rfl (by kernel_rfl), rfl, evK_rs 15 rfl (by kernel_rfl), rfl, evK_rs 13 rfl (by kernel_rfl), rfl, evK_rs 11 rfl (by kernel_rfl), rfl, evK_rs 9 rfl (by kernel_rfl), rfl, evK_rs 7 rfl (by kernel_rfl), rfl, evK_rs 5 rfl (by kernel_rfl), rfl, evK_rs 4 rfl (by kernel_rfl), evK_rs 28 rfl (by kernel_rfl), rfl, evK_rs 27 rfl (by kernel_rfl), evK_rs 26 rfl (by kernel_rfl), evK_r 29 (by kernel_rfl), rfl, rfl, evK_rs 25 rfl (by kernel_rfl), rfl, evK_rs 24 rfl (by kernel_rfl), evK_rs 30 rfl (by kernel_rfl), rfl, rfl, evK_rs 3 rfl (by kernel_rfl), rfl, evK_rs 0 rfl (by kernel_rfl)⟩
theorem m21 : mini fi21.body = c21_0 := by kernel_rfl
theorem n21_77 (fr : Fr) (st : St) (k : Kt) : nextK gS fi21 (.loop c21_78 k) .normal fr st = evK gS fi21 c21_77 fr st k := rfl
set_option maxHeartbeats 4000000 in
theorem L21_77 (p : Pred) (v : Val) (h_p : p.ok) (st : St) : ∀ (n i : Nat) (j : Int)  (e0 e1 e2 e4 e5 e6 e7 e8 e10 e22 : E) (T : List (Nat × E)) (X : List (Nat × List V)) (ht0 : e0.Tame) (ht1 : e1.Tame) (ht2 : e2.Tame) (ht4 : e4.Tame) (ht5 : e5.Tame) (ht6 : e6.Tame) (ht7 : e7.Tame) (ht8 : e8.Tame) (ht10 : e10.Tame) (ht22 : e22.Tame) (hx3 : lk X 3 = some [.int .i64 v.kind, .int .i64 v.n, .float .f64 v.x, .str v.s, .bool v.b]) , j = (i : Int) → i ≤ (p.set).length → (p.set).length - i = n →
    evK gS fi21 c21_77 { ps := [(0, e0), (1, e1), (2, e2), (3, .lp 3 0), (4, e4), (5, e5), (6, e6), (7, e7), (8, e8), (10, e10), (22, e22), (103, .val (.slice (encVals p.set))), (104, .val (.int .i64 p.set.length)), (105, .val (.int .i64 j))], ts := T, lc := X } st (.blk 1 (.seq c21_96 .nil)) = some ((.ret (.bool ((p.set.drop i).any (vis v))) none), st) := by
  intro n
  have hm : fi21.marks = [] := rfl
  have hl : fi21.locals = [2, 3, 10] := rfl
  have hr : fi21.results = [.tmp 4] := rfl
  have hpo := h_p.2
  induction n with
  | zero =>
    intro i j  e0 e1 e2 e4 e5 e6 e7 e8 e10 e22 T X ht0 ht1 ht2 ht4 ht5 ht6 ht7 ht8 ht10 ht22 hx3  hj hi hn
    obtain rfl : i = (p.set).length := by omega
    subst hj
    refine evK_loop c21_78 _ st _ _ rfl ?_
    simp (config := { contextual := true, maxSteps := 10000000, maxDischargeDepth := 6 }) [-Int.not_le, -Int.not_lt, -Nat.not_le, -Nat.not_lt, ty3, ty4, ty9, ty24, ty25, ty27, eq24, hm, hl, hr, k19, k32, k75, k76, E21, n21_77, ht0, ht1, ht2, ht4, ht5, ht6, ht7, ht8, ht10, ht22, hx3]
    all_goals first | done | grind | omega | (trace_state; fail)
  | succ n ih =>
    intro i j  e0 e1 e2 e4 e5 e6 e7 e8 e10 e22 T X ht0 ht1 ht2 ht4 ht5 ht6 ht7 ht8 ht10 ht22 hx3  hj hi hn
    subst hj
    obtain ⟨x, hx⟩ : ∃ x, (p.set)[i]? = some x := ⟨(p.set)[i]'(by omega), List.getElem?_eq_getElem (by omega)⟩
    have hd := drop_get hx
    have hlt : (i : Int) < ((p.set).length : Int) := by omega
    have hlt2 : i < (p.set).length := by omega
    have hxe : (p.set)[i]'hlt2 = x := by rw [List.getElem?_eq_getElem hlt2] at hx; exact Option.some.inj hx
    have hw : IntKind.wrap .i64 ((i : Int) + 1) = (i : Int) + 1 := wrap64 (by omega) (by omega)
    have IH := fun e0 e1 e2 e4 e5 e6 e7 e8 e10 e22 T X ht0 ht1 ht2 ht4 ht5 ht6 ht7 ht8 ht10 ht22 hx3 => ih (i + 1) ((i : Int) + 1) e0 e1 e2 e4 e5 e6 e7 e8 e10 e22 T X ht0 ht1 ht2 ht4 ht5 ht6 ht7 ht8 ht10 ht22 hx3 rfl (by omega) (by omega)
    refine evK_loop c21_78 _ st _ _ rfl ?_
    simp (config := { contextual := true, maxSteps := 10000000, maxDischargeDepth := 6 }) [-Int.not_le, -Int.not_lt, -Nat.not_le, -Nat.not_lt, ty3, ty4, ty9, ty24, ty25, ty27, eq24, hm, hl, hr, k19, k32, k75, k76, E21, n21_77, ht0, ht1, ht2, ht4, ht5, ht6, ht7, ht8, ht10, ht22, hx3, hx, hxe, hd, hlt, hlt2, hw, IH]
    all_goals first | done | grind | omega | (trace_state; fail)
set_option maxHeartbeats 4000000 in
theorem c21 (p : Pred) (v : Val)  (h_p : Pred.ok p) (st : St) : EvF gS 21 [p.enc, v.enc] st = some (.ret (.bool (ptakes p v)) none, st) := by
  refine EvF_start fi21_eq (fun x h => by cases h) m21 ?_
  rw [st21]
  have hm : fi21.marks = [] := rfl
  have hl : fi21.locals = [2, 3, 10] := rfl
  have hr : fi21.results = [.tmp 4] := rfl
  simp (config := { contextual := true, maxSteps := 10000000, maxDischargeDepth := 6 }) [-Int.not_le, -Int.not_lt, -Nat.not_le, -Nat.not_lt, ty3, ty4, ty9, ty24, ty25, ty27, eq24, hm, hl, hr, k19, k32, k75, k76, E21, n21_77, (fun e0 e1 e2 e4 e5 e6 e7 e8 e10 e22 T X ht0 ht1 ht2 ht4 ht5 ht6 ht7 ht8 ht10 ht22 hx3 => L21_77 p v h_p st _ 0 0  e0 e1 e2 e4 e5 e6 e7 e8 e10 e22 T X ht0 ht1 ht2 ht4 ht5 ht6 ht7 ht8 ht10 ht22 hx3 rfl (Nat.zero_le _) rfl), h_p.1, h_p.2]
  all_goals try simp (config := { contextual := true }) [-Int.not_le, -Int.not_lt, -Nat.not_le, -Nat.not_lt, ptakes]
  all_goals first | done | grind | omega | (trace_state; fail)
theorem k21 (p_name : List UInt8) (p_test : Int) (p_vk : Int) (p_vn : Int) (p_vx : Nat) (p_vs : List UInt8) (p_vb : Bool) (p_wk : Int) (p_wn : Int) (p_wx : Nat) (p_ws : List UInt8) (p_wb : Bool) (p_set : List Val) (v_k : Int) (v_n : Int) (v_x : Nat) (v_s : List UInt8) (v_b : Bool)  (h_p : Pred.ok (⟨p_name, p_test, ⟨p_vk, p_vn, p_vx, p_vs, p_vb⟩, ⟨p_wk, p_wn, p_wx, p_ws, p_wb⟩, p_set⟩ : Pred)) (fr : Fr) (st : St) : callStep gS (EvF gS) 21 [.agg [.str p_name, .int .i64 p_test, .int .i64 p_vk, .int .i64 p_vn, .float .f64 p_vx, .str p_vs, .bool p_vb, .int .i64 p_wk, .int .i64 p_wn, .float .f64 p_wx, .str p_ws, .bool p_wb, .slice (encVals p_set)], .agg [.int .i64 v_k, .int .i64 v_n, .float .f64 v_x, .str v_s, .bool v_b]] fr st = some (.ok (retE none (.bool (ptakes (⟨p_name, p_test, ⟨p_vk, p_vn, p_vx, p_vs, p_vb⟩, ⟨p_wk, p_wn, p_wx, p_ws, p_wb⟩, p_set⟩ : Pred) (⟨v_k, v_n, v_x, v_s, v_b⟩ : Val)))) fr st) :=
  call_pure rfl fi21_eq rfl (fun st => c21 (⟨p_name, p_test, ⟨p_vk, p_vn, p_vx, p_vs, p_vb⟩, ⟨p_wk, p_wn, p_wx, p_ws, p_wb⟩, p_set⟩ : Pred) (⟨v_k, v_n, v_x, v_s, v_b⟩ : Val) h_p st) (by simp)
def fi22 : FI := { body := codeOf Try.f22, ntmps := 115, results := [.tmp 4], pers := [0, 1, 2, 3, 4, 5, 6, 7, 8, 9, 21], locals := [2, 3], pure := true, marks := [] }
theorem fi22_eq : gS.fn 22 = some fi22 := by kernel_rfl
theorem st22 (a0 a1 : V) : startFr fi22 [a0, a1] = { ps := [(0, .val a0), (1, .val a1), (2, .any), (3, .any), (4, .any), (5, .any), (6, .any), (7, .any), (8, .any), (9, .any), (21, .any)], ts := [], lc := [] } := rfl
def b22 : Code := mini (codeOf Try.f22)
def c22_6 : Code := .seq (codeN b22 37) .ret
def c22_5 : Code := .cond (.tmp 12) c22_6 .skip
def c22_3 : Code := .seq (codeN b22 9) c22_5
def c22_19 : Code := .seq (codeN b22 599) .ret
def c22_25 : Code := .seq (codeN b22 2519) .ret
def c22_31 : Code := .seq (codeN b22 10199) .ret
def c22_37 : Code := .seq (codeN b22 40919) .ret
def c22_43 : Code := .seq (codeN b22 163799) .ret
def c22_49 : Code := .seq (codeN b22 655319) .ret
def c22_55 : Code := .seq (codeN b22 2621399) .ret
def c22_63 : Code := .seq (codeN b22 23068631) .ret
def c22_61 : Code := .seq (codeN b22 10485719) c22_63
def c22_69 : Code := .seq (codeN b22 41942999) .ret
def c22_68 : Code := .cond (.tmp 88) c22_69 .skip
def c22_66 : Code := .seq (codeN b22 12582871) c22_68
def c22_60 : Code := .cond (.tmp 67) c22_61 c22_66
def c22_58 : Code := .seq (codeN b22 3145687) c22_60
def c22_54 : Code := .cond (.tmp 60) c22_55 c22_58
def c22_52 : Code := .seq (codeN b22 786391) c22_54
def c22_48 : Code := .cond (.tmp 53) c22_49 c22_52
def c22_46 : Code := .seq (codeN b22 196567) c22_48
def c22_42 : Code := .cond (.tmp 46) c22_43 c22_46
def c22_40 : Code := .seq (codeN b22 49111) c22_42
def c22_36 : Code := .cond (.tmp 39) c22_37 c22_40
def c22_34 : Code := .seq (codeN b22 12247) c22_36
def c22_30 : Code := .cond (.tmp 31) c22_31 c22_34
def c22_28 : Code := .seq (codeN b22 3031) c22_30
def c22_24 : Code := .cond (.tmp 24) c22_25 c22_28
def c22_22 : Code := .seq (codeN b22 727) c22_24
def c22_18 : Code := .cond (.tmp 22) c22_19 c22_22
def c22_16 : Code := .seq (codeN b22 151) c22_18
def c22_15 : Code := .block 0 c22_16
def c22_13 : Code := .seq (codeN b22 39) c22_15
def c22_81 : Code := .cond (.tmp 105) .skip (.exit 1)
def c22_79 : Code := .seq (codeN b22 1071) c22_81
def r22_87 : Array Oper := regOps (codeN (codeOf Try.f22) 4399)
def c22_87 : Code := .region 27 r22_87 true
def q22_87 : List (Oper × Fl) := [(ld 108 24 3 24, ⟨true, false, true, false, false, false, true, true, false, false, []⟩),
 (op1 109 (.fieldAddr 27 (.tmp 2) 4) 0, ⟨true, false, true, false, false, false, true, true, false, false, []⟩),
 (ld 110 25 109 25, ⟨true, false, true, false, false, false, true, true, false, false, []⟩),
 (mv 111 9 3, ⟨true, false, true, false, true, false, true, true, false, false, []⟩),
 (ixa 112 25 110 111 0, ⟨true, false, true, false, true, false, true, true, false, false, []⟩),
 (ld 113 24 112 24, ⟨true, false, true, false, true, false, true, true, false, false, []⟩),
 (cal 114 79 [(.tmp 108), (.tmp 113)] [24, 24] 4, ⟨true, true, true, false, true, true, true, true, false, false, []⟩)]
def c22_89 : Code := .seq (codeN b22 18735) .ret
def c22_88 : Code := .cond (.tmp 114) c22_89 .skip
def c22_86 : Code := .seq c22_87 c22_88
def c22_93 : Code := codeN b22 1839
def c22_84 : Code := .seq (.block 2 c22_86) c22_93
def c22_78 : Code := .seq c22_79 c22_84
def c22_77 : Code := .loop c22_78
def c22_76 : Code := .block 1 c22_77
def c22_74 : Code := .seq (codeN b22 79) c22_76
def c22_94 : Code := .seq (codeN b22 95) .ret
def c22_73 : Code := .seq c22_74 c22_94
def c22_12 : Code := .seq c22_13 c22_73
def c22_10 : Code := .seq (codeN b22 11) c22_12
def c22_2 : Code := .seq c22_3 c22_10
def c22_0 : Code := .seq (codeN b22 2) c22_2
theorem E22 : evK gS fi22 c22_6 fr st k = opsR gS fi22 [op1 4 (.assign (.const (.bool false))) 4] fr st (.seq .ret k) ∧
 evK gS fi22 c22_5 fr st k = condK gS fi22 (fr.op (.tmp 12)).bool? c22_6 .skip fr st k ∧
 (evK gS fi22 c22_3 fr st k = opsR gS fi22 [ld 10 27 2 27,
 cal 11 20 [(.tmp 10)] [27] 4,
 op1 12 (.unOp .not 4 (.tmp 11)) 4] fr st (.seq c22_5 k)) ∧
 evK gS fi22 c22_19 fr st k = opsR gS fi22 [op1 4 (.assign (.const (.bool true))) 4] fr st (.seq .ret k) ∧
 (evK gS fi22 c22_25 fr st k = opsR gS fi22 [mv 26 6 4,
 mv 27 26 4,
 mk (some 28) (.move (.tmp 5)) 3 (some (1, true)),
 mk (some 29) (.binOp .eql 3 (.tmp 28) (.const (.int .i64 0)) 3) 4 (some (1, true)),
 op1 30 (.pick (.tmp 27) (.tmp 29) (.const (.bool false))) 4,
 asn 4 30 4] fr st (.seq .ret k)) ∧
 (evK gS fi22 c22_31 fr st k = opsR gS fi22 [mv 33 6 4,
 op1 34 (.unOp .not 4 (.tmp 33)) 4,
 mv 35 34 4,
 mk (some 36) (.move (.tmp 5)) 3 (some (2, false)),
 mk (some 37) (.binOp .neq 3 (.tmp 36) (.const (.int .i64 0)) 3) 4 (some (2, false)),
 op1 38 (.pick (.tmp 35) (.const (.bool true)) (.tmp 37)) 4,
 asn 4 38 4] fr st (.seq .ret k)) ∧
 (evK gS fi22 c22_37 fr st k = opsR gS fi22 [mv 41 6 4,
 mv 42 41 4,
 mk (some 43) (.move (.tmp 5)) 3 (some (1, true)),
 mk (some 44) (.binOp .lss 3 (.tmp 43) (.const (.int .i64 0)) 3) 4 (some (1, true)),
 op1 45 (.pick (.tmp 42) (.tmp 44) (.const (.bool false))) 4,
 asn 4 45 4] fr st (.seq .ret k)) ∧
 (evK gS fi22 c22_43 fr st k = opsR gS fi22 [mv 48 6 4,
 mv 49 48 4,
 mk (some 50) (.move (.tmp 5)) 3 (some (1, true)),
 mk (some 51) (.binOp .leq 3 (.tmp 50) (.const (.int .i64 0)) 3) 4 (some (1, true)),
 op1 52 (.pick (.tmp 49) (.tmp 51) (.const (.bool false))) 4,
 asn 4 52 4] fr st (.seq .ret k)) ∧
 (evK gS fi22 c22_49 fr st k = opsR gS fi22 [mv 55 6 4,
 mv 56 55 4,
 mk (some 57) (.move (.tmp 5)) 3 (some (1, true)),
 mk (some 58) (.binOp .gtr 3 (.tmp 57) (.const (.int .i64 0)) 3) 4 (some (1, true)),
 op1 59 (.pick (.tmp 56) (.tmp 58) (.const (.bool false))) 4,
 asn 4 59 4] fr st (.seq .ret k)) ∧
 (evK gS fi22 c22_55 fr st k = opsR gS fi22 [mv 62 6 4,
 mv 63 62 4,
 mk (some 64) (.move (.tmp 5)) 3 (some (1, true)),
 mk (some 65) (.binOp .geq 3 (.tmp 64) (.const (.int .i64 0)) 3) 4 (some (1, true)),
 op1 66 (.pick (.tmp 63) (.tmp 65) (.const (.bool false))) 4,
 asn 4 66 4] fr st (.seq .ret k)) ∧
 (evK gS fi22 c22_63 fr st k = opsR gS fi22 [mv 76 6 4,
 mv 77 76 4,
 mk (some 78) (.move (.tmp 8)) 4 (some (1, true)),
 op1 79 (.pick (.tmp 77) (.tmp 78) (.const (.bool false))) 4,
 mv 80 79 4,
 mk (some 81) (.move (.tmp 5)) 3 (some (4, true)),
 mk (some 82) (.binOp .geq 3 (.tmp 81) (.const (.int .i64 0)) 3) 4 (some (4, true)),
 op1 83 (.pick (.tmp 80) (.tmp 82) (.const (.bool false))) 4,
 mv 84 83 4,
 mk (some 85) (.move (.tmp 7)) 3 (some (8, true)),
 mk (some 86) (.binOp .leq 3 (.tmp 85) (.const (.int .i64 0)) 3) 4 (some (8, true)),
 op1 87 (.pick (.tmp 84) (.tmp 86) (.const (.bool false))) 4,
 asn 4 87 4] fr st (.seq .ret k)) ∧
 (evK gS fi22 c22_61 fr st k = opsR gS fi22 [ld 70 24 3 24,
 op1 71 (.fieldAddr 27 (.tmp 2) 3) 0,
 ld 72 24 71 24,
 cal 73 77 [(.tmp 70), (.tmp 72)] [24, 24] 94,
 mv 69 73 94,
 op1 74 (.extract (.tmp 69) 0) 3,
 op1 75 (.extract (.tmp 69) 1) 4,
 asn 7 74 3,
 asn 8 75 4] fr st (.seq c22_63 k)) ∧
 (evK gS fi22 c22_69 fr st k = opsR gS fi22 [op1 90 (.fieldAddr 24 (.tmp 3) 0) 0,
 ld 91 3 90 3,
 op1 92 (.binOp .eql 3 (.tmp 91) (.const (.int .i64 3)) 3) 4,
 mv 93 92 4,
 mk (some 94) (.fieldAddr 24 (.tmp 3) 3) 0 (some (3, true)),
 mk (some 95) (.load 9 (.tmp 94)) 9 (some (3, true)),
 mk (some 96) (.fieldAddr 27 (.tmp 2) 2) 0 (some (3, true)),
 mk (some 97) (.fieldAddr 24 (.tmp 96) 3) 0 (some (3, true)),
 mk (some 98) (.load 9 (.tmp 97)) 9 (some (3, true)),
 mk (some 99) (.call { callee := (.value (.func 78)), args := #[(.tmp 95), (.tmp 98)], argTypes := #[9, 9] }) 4 (some (3, true)),
 op1 100 (.pick (.tmp 93) (.tmp 99) (.const (.bool false))) 4,
 asn 4 100 4] fr st (.seq .ret k)) ∧
 evK gS fi22 c22_68 fr st k = condK gS fi22 (fr.op (.tmp 88)).bool? c22_69 .skip fr st k ∧
 (evK gS fi22 c22_66 fr st k = opsR gS fi22 [op1 89 (.binOp .eql 3 (.tmp 21) (.const (.int .i64 9)) 3) 4,
 asn 88 89 4] fr st (.seq c22_68 k)) ∧
 evK gS fi22 c22_60 fr st k = condK gS fi22 (fr.op (.tmp 67)).bool? c22_61 c22_66 fr st k ∧
 (evK gS fi22 c22_58 fr st k = opsR gS fi22 [op1 68 (.binOp .eql 3 (.tmp 21) (.const (.int .i64 8)) 3) 4,
 asn 67 68 4] fr st (.seq c22_60 k)) ∧
 evK gS fi22 c22_54 fr st k = condK gS fi22 (fr.op (.tmp 60)).bool? c22_55 c22_58 fr st k ∧
 (evK gS fi22 c22_52 fr st k = opsR gS fi22 [op1 61 (.binOp .eql 3 (.tmp 21) (.const (.int .i64 7)) 3) 4,
 asn 60 61 4] fr st (.seq c22_54 k)) ∧
 evK gS fi22 c22_48 fr st k = condK gS fi22 (fr.op (.tmp 53)).bool? c22_49 c22_52 fr st k ∧
 (evK gS fi22 c22_46 fr st k = opsR gS fi22 [op1 54 (.binOp .eql 3 (.tmp 21) (.const (.int .i64 6)) 3) 4,
 asn 53 54 4] fr st (.seq c22_48 k)) ∧
 evK gS fi22 c22_42 fr st k = condK gS fi22 (fr.op (.tmp 46)).bool? c22_43 c22_46 fr st k ∧
 (evK gS fi22 c22_40 fr st k = opsR gS fi22 [op1 47 (.binOp .eql 3 (.tmp 21) (.const (.int .i64 5)) 3) 4,
 asn 46 47 4] fr st (.seq c22_42 k)) ∧
 evK gS fi22 c22_36 fr st k = condK gS fi22 (fr.op (.tmp 39)).bool? c22_37 c22_40 fr st k ∧
 (evK gS fi22 c22_34 fr st k = opsR gS fi22 [op1 40 (.binOp .eql 3 (.tmp 21) (.const (.int .i64 4)) 3) 4,
 asn 39 40 4] fr st (.seq c22_36 k)) ∧
 evK gS fi22 c22_30 fr st k = condK gS fi22 (fr.op (.tmp 31)).bool? c22_31 c22_34 fr st k ∧
 (evK gS fi22 c22_28 fr st k = opsR gS fi22 [op1 32 (.binOp .eql 3 (.tmp 21) (.const (.int .i64 3)) 3) 4,
 asn 31 32 4] fr st (.seq c22_30 k)) ∧
 evK gS fi22 c22_24 fr st k = condK gS fi22 (fr.op (.tmp 24)).bool? c22_25 c22_28 fr st k ∧
 (evK gS fi22 c22_22 fr st k = opsR gS fi22 [op1 25 (.binOp .eql 3 (.tmp 21) (.const (.int .i64 2)) 3) 4,
 asn 24 25 4] fr st (.seq c22_24 k)) ∧
 evK gS fi22 c22_18 fr st k = condK gS fi22 (fr.op (.tmp 22)).bool? c22_19 c22_22 fr st k ∧
 (evK gS fi22 c22_16 fr st k = opsR gS fi22 [op1 23 (.binOp .eql 3 (.tmp 21) (.const (.int .i64 1)) 3) 4,
 asn 22 23 4] fr st (.seq c22_18 k)) ∧
 evK gS fi22 c22_15 fr st k = evK gS fi22 c22_16 fr st (.blk 0 k) ∧
 (evK gS fi22 c22_13 fr st k = opsR gS fi22 [op1 20 (.fieldAddr 27 (.tmp 2) 1) 0,
 ld 21 3 20 3] fr st (.seq c22_15 k)) ∧
 evK gS fi22 c22_81 fr st k = condK gS fi22 (fr.op (.tmp 105)).bool? .skip (.exit 1) fr st k ∧
 (evK gS fi22 c22_79 fr st k = opsR gS fi22 [mv 101 9 3,
 op1 102 (.fieldAddr 27 (.tmp 2) 4) 0,
 ld 103 25 102 25,
 len1 104 103 25 3,
 bop 105 .lss 3 101 104 3 4] fr st (.seq c22_81 k)) ∧
 evK gS fi22 c22_87 fr st k = drwR gS fi22 r22_87 q22_87 fr st k ∧
 evK gS fi22 c22_89 fr st k = opsR gS fi22 [op1 4 (.assign (.const (.bool true))) 4] fr st (.seq .ret k) ∧
 evK gS fi22 c22_88 fr st k = condK gS fi22 (fr.op (.tmp 114)).bool? c22_89 .skip fr st k ∧
 evK gS fi22 c22_86 fr st k = evK gS fi22 c22_87 fr st (.seq c22_88 k) ∧
 (evK gS fi22 c22_93 fr st k = opsR gS fi22 [mv 106 9 3,
 op1 107 (.binOp .add 3 (.tmp 106) (.const (.int .i64 1)) 3) 3,
 asn 9 107 3] fr st k) ∧
 evK gS fi22 c22_84 fr st k = evK gS fi22 c22_86 fr st (.blk 2 (.seq c22_93 k)) ∧
 evK gS fi22 c22_78 fr st k = evK gS fi22 c22_79 fr st (.seq c22_84 k) ∧
 evK gS fi22 c22_76 fr st k = evK gS fi22 c22_77 fr st (.blk 1 k) ∧
 evK gS fi22 c22_74 fr st k = opsR gS fi22 [op1 9 (.assign (.const (.int .i64 0))) 3] fr st (.seq c22_76 k) ∧
 evK gS fi22 c22_94 fr st k = opsR gS fi22 [op1 4 (.assign (.const (.bool false))) 4] fr st (.seq .ret k) ∧
 evK gS fi22 c22_73 fr st k = evK gS fi22 c22_74 fr st (.seq c22_94 k) ∧
 evK gS fi22 c22_12 fr st k = evK gS fi22 c22_13 fr st (.seq c22_73 k) ∧
 (evK gS fi22 c22_10 fr st k = opsR gS fi22 [ld 14 24 3 24,
 op1 15 (.fieldAddr 27 (.tmp 2) 2) 0,
 ld 16 24 15 24,
 cal 17 77 [(.tmp 14), (.tmp 16)] [24, 24] 94,
 mv 13 17 94,
 op1 18 (.extract (.tmp 13) 0) 3,
 op1 19 (.extract (.tmp 13) 1) 4,
 asn 5 18 3,
 asn 6 19 4] fr st (.seq c22_12 k)) ∧
 evK gS fi22 c22_2 fr st k = evK gS fi22 c22_3 fr st (.seq c22_10 k) ∧
 (evK gS fi22 c22_0 fr st k = opsR gS fi22 [op1 2 (.box 27 (.tmp 0)) 0,
 op1 3 (.box 24 (.tmp 1)) 0,
 op1 4 (.assign (.const (.bool false))) 4] fr st (.seq c22_2 k)) := ⟨evK_rs 2 rfl (by kernel_rfl), rfl, evK_rs 1 rfl (by kernel_rfl), evK_rs 6 rfl (by kernel_rfl), evK_rs 8 rfl (by kernel_rfl), evK_rs 10 rfl (by kernel_rfl), evK_rs 12 rfl (by kernel_rfl), evK_rs 14 rfl (by kernel_rfl), evK_rs 16 rfl (by kernel_rfl), evK_rs 18 rfl (by kernel_rfl), evK_rs 21 rfl (by kernel_rfl), evK_rs 20 rfl (by kernel_rfl), evK_rs 23 rfl (by kernel_rfl), rfl, evK_rs 22 rfl (by kernel_rfl), rfl, evK_rs 19 rfl (by kernel_rfl), rfl, evK_rs 17 rfl (by kernel_rfl), rfl, evK_rs 15 rfl (by kernel_rfl), rfl, evK_rs 13 rfl (by kernel_rfl), rfl, evK_rs 11 rfl (by kernel_rfl), rfl, evK_rs 9 rfl (by kernel_rfl), rfl, evK_rs 7 rfl (by kernel_rfl), rfl, evK_rs 5 rfl (by kernel_rfl), rfl, evK_rs 4 rfl (by kernel_rfl), rfl, evK_rs 25 rfl (by kernel_rfl), evK_dr 27 rfl (by kernel_rfl) (by kernel_rfl), evK_rs 28 rfl (by kernel_rfl), rfl, rfl, evK_r 26 (by kernel_rfl), rfl, rfl, rfl, evK_rs 24 rfl (by kernel_rfl), evK_rs 29 rfl (by kernel_rfl), rfl, rfl, evK_rs 3 rfl (by kernel_rfl), rfl, evK_rs 0 rfl (by kernel_rfl)⟩
theorem m22 : mini fi22.body = c22_0 := by kernel_rfl
theorem n22_77 (fr : Fr) (st : St) (k : Kt) : nextK gS fi22 (.loop c22_78 k) .normal fr st = evK gS fi22 c22_77 fr st k := rfl
set_option maxHeartbeats 4000000 in
theorem L22_77 (p : Pred) (v : Val) (h_p : p.ok) (st : St) : ∀ (n i : Nat) (j : Int)  (e0 e1 e4 e5 e6 e7 e8 e21 : E) (T : List (Nat × E)) (X : List (Nat × List V)) (ht0 : e0.Tame) (ht1 : e1.Tame) (ht4 : e4.Tame) (ht5 : e5.Tame) (ht6 : e6.Tame) (ht7 : e7.Tame) (ht8 : e8.Tame) (ht21 : e21.Tame) (hx2 : lk X 2 = some [.str p.name, .int .i64 p.test, .int .i64 p.v.kind, .int .i64 p.v.n, .float .f64 p.v.x, .str p.v.s, .bool p.v.b, .int .i64 p.w.kind, .int .i64 p.w.n, .float .f64 p.w.x, .str p.w.s, .bool p.w.b, .slice (encVals p.set)]) (hx3 : lk X 3 = some [.int .i64 v.kind, .int .i64 v.n, .float .f64 v.x, .str v.s, .bool v.b]) , j = (i : Int) → i ≤ (p.set).length → (p.set).length - i = n →
    evK gS fi22 c22_77 { ps := [(0, e0), (1, e1), (2, .lp 2 0), (3, .lp 3 0), (4, e4), (5, e5), (6, e6), (7, e7), (8, e8), (9, .val (.int .i64 j)), (21, e21)], ts := T, lc := X } st (.blk 1 (.seq c22_94 .nil)) = some ((.ret (.bool ((p.set.drop i).any (vis v))) none), st) := by
  intro n
  have hm : fi22.marks = [] := rfl
  have hl : fi22.locals = [2, 3] := rfl
  have hr : fi22.results = [.tmp 4] := rfl
  have hpo := h_p.2
  induction n with
  | zero =>
    intro i j  e0 e1 e4 e5 e6 e7 e8 e21 T X ht0 ht1 ht4 ht5 ht6 ht7 ht8 ht21 hx2 hx3  hj hi hn
    obtain rfl : i = (p.set).length := by omega
    subst hj
    refine evK_loop c22_78 _ st _ _ rfl ?_
    simp (config := { contextual := true, maxSteps := 10000000, maxDischargeDepth := 6 }) [-Int.not_le, -Int.not_lt, -Nat.not_le, -Nat.not_lt, ty3, ty4, ty9, ty24, ty25, ty27, eq24, hm, hl, hr, k20, x20, fi20_eq, p20, k77, x77, fi77_eq, p77, k78, x78, fi78_eq, p78, k79, x79, fi79_eq, p79, E22, q22_87, n22_77, ht0, ht1, ht4, ht5, ht6, ht7, ht8, ht21, hx2, hx3]
    all_goals first | done | grind | omega | (trace_state; fail)
  | succ n ih =>
    intro i j  e0 e1 e4 e5 e6 e7 e8 e21 T X ht0 ht1 ht4 ht5 ht6 ht7 ht8 ht21 hx2 hx3  hj hi hn
    subst hj
    obtain ⟨x, hx⟩ : ∃ x, (p.set)[i]? = some x := ⟨(p.set)[i]'(by omega), List.getElem?_eq_getElem (by omega)⟩
    have hd := drop_get hx
    have hlt : (i : Int) < ((p.set).length : Int) := by omega
    have hlt2 : i < (p.set).length := by omega
    have hxe : (p.set)[i]'hlt2 = x := by rw [List.getElem?_eq_getElem hlt2] at hx; exact Option.some.inj hx
    have hw : IntKind.wrap .i64 ((i : Int) + 1) = (i : Int) + 1 := wrap64 (by omega) (by omega)
    have IH := fun e0 e1 e4 e5 e6 e7 e8 e21 T X ht0 ht1 ht4 ht5 ht6 ht7 ht8 ht21 hx2 hx3 => ih (i + 1) ((i : Int) + 1) e0 e1 e4 e5 e6 e7 e8 e21 T X ht0 ht1 ht4 ht5 ht6 ht7 ht8 ht21 hx2 hx3 rfl (by omega) (by omega)
    refine evK_loop c22_78 _ st _ _ rfl ?_
    simp (config := { contextual := true, maxSteps := 10000000, maxDischargeDepth := 6 }) [-Int.not_le, -Int.not_lt, -Nat.not_le, -Nat.not_lt, ty3, ty4, ty9, ty24, ty25, ty27, eq24, hm, hl, hr, k20, x20, fi20_eq, p20, k77, x77, fi77_eq, p77, k78, x78, fi78_eq, p78, k79, x79, fi79_eq, p79, E22, q22_87, n22_77, ht0, ht1, ht4, ht5, ht6, ht7, ht8, ht21, hx2, hx3, hx, hxe, hd, hlt, hlt2, hw, IH]
    all_goals first | done | grind | omega | (trace_state; fail)
set_option maxHeartbeats 4000000 in
theorem c22 (p : Pred) (v : Val)  (h_p : Pred.ok p) (st : St) : EvF gS 22 [p.enc, v.enc] st = some (.ret (.bool (ptakes p v)) none, st) := by
  refine EvF_start fi22_eq (fun x h => by cases h) m22 ?_
  rw [st22]
  have hm : fi22.marks = [] := rfl
  have hl : fi22.locals = [2, 3] := rfl
  have hr : fi22.results = [.tmp 4] := rfl
  simp (config := { contextual := true, maxSteps := 10000000, maxDischargeDepth := 6 }) [-Int.not_le, -Int.not_lt, -Nat.not_le, -Nat.not_lt, ty3, ty4, ty9, ty24, ty25, ty27, eq24, hm, hl, hr, k20, x20, fi20_eq, p20, k77, x77, fi77_eq, p77, k78, x78, fi78_eq, p78, k79, x79, fi79_eq, p79, E22, q22_87, n22_77, (fun e0 e1 e4 e5 e6 e7 e8 e21 T X ht0 ht1 ht4 ht5 ht6 ht7 ht8 ht21 hx2 hx3 => L22_77 p v h_p st _ 0 0  e0 e1 e4 e5 e6 e7 e8 e21 T X ht0 ht1 ht4 ht5 ht6 ht7 ht8 ht21 hx2 hx3 rfl (Nat.zero_le _) rfl), h_p.1, h_p.2]
  all_goals try simp (config := { contextual := true }) [-Int.not_le, -Int.not_lt, -Nat.not_le, -Nat.not_lt, ptakes]
  all_goals first | done | grind | omega | (trace_state; fail)
theorem k22 (p_name : List UInt8) (p_test : Int) (p_vk : Int) (p_vn : Int) (p_vx : Nat) (p_vs : List UInt8) (p_vb : Bool) (p_wk : Int) (p_wn : Int) (p_wx : Nat) (p_ws : List UInt8) (p_wb : Bool) (p_set : List Val) (v_k : Int) (v_n : Int) (v_x : Nat) (v_s : List UInt8) (v_b : Bool)  (h_p : Pred.ok (⟨p_name, p_test, ⟨p_vk, p_vn, p_vx, p_vs, p_vb⟩, ⟨p_wk, p_wn, p_wx, p_ws, p_wb⟩, p_set⟩ : Pred)) (fr : Fr) (st : St) : callStep gS (EvF gS) 22 [.agg [.str p_name, .int .i64 p_test, .int .i64 p_vk, .int .i64 p_vn, .float .f64 p_vx, .str p_vs, .bool p_vb, .int .i64 p_wk, .int .i64 p_wn, .float .f64 p_wx, .str p_ws, .bool p_wb, .slice (encVals p_set)], .agg [.int .i64 v_k, .int .i64 v_n, .float .f64 v_x, .str v_s, .bool v_b]] fr st = some (.ok (retE none (.bool (ptakes (⟨p_name, p_test, ⟨p_vk, p_vn, p_vx, p_vs, p_vb⟩, ⟨p_wk, p_wn, p_wx, p_ws, p_wb⟩, p_set⟩ : Pred) (⟨v_k, v_n, v_x, v_s, v_b⟩ : Val)))) fr st) :=
  call_pure rfl fi22_eq rfl (fun st => c22 (⟨p_name, p_test, ⟨p_vk, p_vn, p_vx, p_vs, p_vb⟩, ⟨p_wk, p_wn, p_wx, p_ws, p_wb⟩, p_set⟩ : Pred) (⟨v_k, v_n, v_x, v_s, v_b⟩ : Val) h_p st) (by simp)
theorem x22 : gS.ext 22 = none := rfl
theorem p22 : fi22.pure = true := rfl
def fi23 : FI := { body := codeOf Try.f23, ntmps := 50, results := [.tmp 2], pers := [0, 1, 2, 3, 4, 6, 11, 12, 40, 41, 42], locals := [1, 6], pure := true, marks := [] }
theorem fi23_eq : gS.fn 23 = some fi23 := by kernel_rfl
theorem st23 (a0 : V) : startFr fi23 [a0] = { ps := [(0, .val a0), (1, .any), (2, .any), (3, .any), (4, .any), (6, .any), (11, .any), (12, .any), (40, .any), (41, .any), (42, .any)], ts := [], lc := [] } := rfl
def b23 : Code := mini (codeOf Try.f23)
def c23_6 : Code := .seq (codeN b23 37) .ret
def c23_5 : Code := .cond (.tmp 9) c23_6 .skip
def c23_3 : Code := .seq (codeN b23 9) c23_5
def c23_31 : Code := codeN b23 32715
def c23_29 : Code := .cond (.tmp 12) .skip c23_31
def c23_27 : Code := .seq (codeN b23 12235) c23_29
def c23_25 : Code := .cond (.tmp 12) .skip c23_27
def c23_23 : Code := .seq (codeN b23 3019) c23_25
def c23_21 : Code := .cond (.tmp 12) .skip c23_23
def c23_19 : Code := .seq (codeN b23 715) c23_21
def c23_17 : Code := .cond (.tmp 12) .skip c23_19
def c23_15 : Code := .seq (codeN b23 139) c23_17
def c23_33 : Code := .seq (codeN b23 299) .ret
def c23_41 : Code := .seq (codeN b23 2795) .ret
def c23_39 : Code := .seq (codeN b23 1259) c23_41
def c23_65 : Code := .seq (codeN b23 10064875) .ret
def c23_64 : Code := .cond (.tmp 48) c23_65 .skip
def c23_62 : Code := .seq (codeN b23 2724843) c23_64
def c23_60 : Code := .seq (codeN b23 1151979) c23_62
def c23_69 : Code := codeN b23 496619
def c23_58 : Code := .seq (.block 2 c23_60) c23_69
def c23_54 : Code := .seq (.cond (.tmp 43) .skip (.exit 1)) c23_58
def c23_52 : Code := .seq (codeN b23 70635) c23_54
def c23_51 : Code := .loop c23_52
def c23_50 : Code := .block 1 c23_51
def c23_48 : Code := .seq (codeN b23 9195) c23_50
def c23_70 : Code := .seq (codeN b23 11243) .ret
def c23_47 : Code := .seq c23_48 c23_70
def c23_46 : Code := .cond (.tmp 37) c23_47 .skip
def c23_44 : Code := .seq (codeN b23 1515) c23_46
def c23_38 : Code := .cond (.tmp 21) c23_39 c23_44
def c23_36 : Code := .seq (codeN b23 363) c23_38
def c23_32 : Code := .cond (.tmp 12) c23_33 c23_36
def c23_14 : Code := .seq c23_15 c23_32
def c23_13 : Code := .block 0 c23_14
def c23_11 : Code := .seq (codeN b23 19) c23_13
def c23_74 : Code := .seq (codeN b23 23) .ret
def c23_10 : Code := .seq c23_11 c23_74
def c23_2 : Code := .seq c23_3 c23_10
def c23_0 : Code := .seq (codeN b23 2) c23_2
theorem E23 : evK gS fi23 c23_6 fr st k = opsR gS fi23 [op1 2 (.assign (.const (.bool false))) 4] fr st (.seq .ret k) ∧
 evK gS fi23 c23_5 fr st k = condK gS fi23 (fr.op (.tmp 9)).bool? c23_6 .skip fr st k ∧
 (evK gS fi23 c23_3 fr st k = opsR gS fi23 [ld 7 27 1 27,
 cal 8 19 [(.tmp 7)] [27] 4,
 op1 9 (.unOp .not 4 (.tmp 8)) 4] fr st (.seq c23_5 k)) ∧
 (evK gS fi23 c23_31 fr st k = opsR gS fi23 [op1 17 (.binOp .eql 3 (.tmp 11) (.const (.int .i64 7)) 3) 4,
 asn 12 17 4] fr st k) ∧
 evK gS fi23 c23_29 fr st k = condK gS fi23 (fr.op (.tmp 12)).bool? .skip c23_31 fr st k ∧
 (evK gS fi23 c23_27 fr st k = opsR gS fi23 [op1 16 (.binOp .eql 3 (.tmp 11) (.const (.int .i64 6)) 3) 4,
 asn 12 16 4] fr st (.seq c23_29 k)) ∧
 evK gS fi23 c23_25 fr st k = condK gS fi23 (fr.op (.tmp 12)).bool? .skip c23_27 fr st k ∧
 (evK gS fi23 c23_23 fr st k = opsR gS fi23 [op1 15 (.binOp .eql 3 (.tmp 11) (.const (.int .i64 5)) 3) 4,
 asn 12 15 4] fr st (.seq c23_25 k)) ∧
 evK gS fi23 c23_21 fr st k = condK gS fi23 (fr.op (.tmp 12)).bool? .skip c23_23 fr st k ∧
 (evK gS fi23 c23_19 fr st k = opsR gS fi23 [op1 14 (.binOp .eql 3 (.tmp 11) (.const (.int .i64 4)) 3) 4,
 asn 12 14 4] fr st (.seq c23_21 k)) ∧
 evK gS fi23 c23_17 fr st k = condK gS fi23 (fr.op (.tmp 12)).bool? .skip c23_19 fr st k ∧
 (evK gS fi23 c23_15 fr st k = opsR gS fi23 [op1 13 (.binOp .eql 3 (.tmp 11) (.const (.int .i64 2)) 3) 4,
 asn 12 13 4] fr st (.seq c23_17 k)) ∧
 (evK gS fi23 c23_33 fr st k = opsR gS fi23 [op1 18 (.fieldAddr 27 (.tmp 1) 2) 0,
 ld 19 24 18 24,
 cal 20 80 [(.tmp 19)] [24] 4,
 asn 2 20 4] fr st (.seq .ret k)) ∧
 (evK gS fi23 c23_41 fr st k = opsR gS fi23 [mv 31 4 4,
 op1 32 (.unOp .not 4 (.tmp 31)) 4,
 mv 33 32 4,
 mk (some 34) (.move (.tmp 3)) 3 (some (2, false)),
 mk (some 35) (.binOp .gtr 3 (.tmp 34) (.const (.int .i64 0)) 3) 4 (some (2, false)),
 op1 36 (.pick (.tmp 33) (.const (.bool true)) (.tmp 35)) 4,
 asn 2 36 4] fr st (.seq .ret k)) ∧
 (evK gS fi23 c23_39 fr st k = opsR gS fi23 [op1 24 (.fieldAddr 27 (.tmp 1) 2) 0,
 ld 25 24 24 24,
 op1 26 (.fieldAddr 27 (.tmp 1) 3) 0,
 ld 27 24 26 24,
 cal 28 75 [(.tmp 25), (.tmp 27)] [24, 24] 94,
 mv 23 28 94,
 op1 29 (.extract (.tmp 23) 0) 3,
 op1 30 (.extract (.tmp 23) 1) 4,
 asn 3 29 3,
 asn 4 30 4] fr st (.seq c23_41 k)) ∧
 evK gS fi23 c23_65 fr st k = opsR gS fi23 [op1 2 (.assign (.const (.bool false))) 4] fr st (.seq .ret k) ∧
 evK gS fi23 c23_64 fr st k = condK gS fi23 (fr.op (.tmp 48)).bool? c23_65 .skip fr st k ∧
 (evK gS fi23 c23_62 fr st k = opsR gS fi23 [ld 46 24 6 24,
 cal 47 80 [(.tmp 46)] [24] 4,
 op1 48 (.unOp .not 4 (.tmp 47)) 4] fr st (.seq c23_64 k)) ∧
 (evK gS fi23 c23_60 fr st k = opsR gS fi23 [ixa 44 25 40 42 0,
 ld 45 24 44 24,
 op1 6 (.alloc 24) 0,
 sto 24 6 45] fr st (.seq c23_62 k)) ∧
 (evK gS fi23 c23_69 fr st k = opsR gS fi23 [op1 49 (.binOp .add 3 (.tmp 42) (.const (.int .i64 1)) 3) 3,
 mv 42 49 3] fr st k) ∧
 evK gS fi23 c23_58 fr st k = evK gS fi23 c23_60 fr st (.blk 2 (.seq c23_69 k)) ∧
 evK gS fi23 c23_54 fr st k = condK gS fi23 (fr.op (.tmp 43)).bool? .skip (.exit 1) fr st (.seq c23_58 k) ∧
 evK gS fi23 c23_52 fr st k = opsR gS fi23 [bop 43 .lss 3 42 41 3 0] fr st (.seq c23_54 k) ∧
 evK gS fi23 c23_50 fr st k = evK gS fi23 c23_51 fr st (.blk 1 k) ∧
 (evK gS fi23 c23_48 fr st k = opsR gS fi23 [op1 39 (.fieldAddr 27 (.tmp 1) 4) 0,
 ld 40 25 39 25,
 len1 41 40 25 3,
 op1 42 (.move (.const (.int .i64 0))) 3] fr st (.seq c23_50 k)) ∧
 evK gS fi23 c23_70 fr st k = opsR gS fi23 [op1 2 (.assign (.const (.bool true))) 4] fr st (.seq .ret k) ∧
 evK gS fi23 c23_47 fr st k = evK gS fi23 c23_48 fr st (.seq c23_70 k) ∧
 evK gS fi23 c23_46 fr st k = condK gS fi23 (fr.op (.tmp 37)).bool? c23_47 .skip fr st k ∧
 (evK gS fi23 c23_44 fr st k = opsR gS fi23 [op1 38 (.binOp .eql 3 (.tmp 11) (.const (.int .i64 10)) 3) 4,
 asn 37 38 4] fr st (.seq c23_46 k)) ∧
 evK gS fi23 c23_38 fr st k = condK gS fi23 (fr.op (.tmp 21)).bool? c23_39 c23_44 fr st k ∧
 (evK gS fi23 c23_36 fr st k = opsR gS fi23 [op1 22 (.binOp .eql 3 (.tmp 11) (.const (.int .i64 8)) 3) 4,
 asn 21 22 4] fr st (.seq c23_38 k)) ∧
 evK gS fi23 c23_32 fr st k = condK gS fi23 (fr.op (.tmp 12)).bool? c23_33 c23_36 fr st k ∧
 evK gS fi23 c23_14 fr st k = evK gS fi23 c23_15 fr st (.seq c23_32 k) ∧
 evK gS fi23 c23_13 fr st k = evK gS fi23 c23_14 fr st (.blk 0 k) ∧
 (evK gS fi23 c23_11 fr st k = opsR gS fi23 [op1 10 (.fieldAddr 27 (.tmp 1) 1) 0,
 ld 11 3 10 3] fr st (.seq c23_13 k)) ∧
 evK gS fi23 c23_74 fr st k = opsR gS fi23 [op1 2 (.assign (.const (.bool false))) 4] fr st (.seq .ret k) ∧
 evK gS fi23 c23_10 fr st k = evK gS fi23 c23_11 fr st (.seq c23_74 k) ∧
 evK gS fi23 c23_2 fr st k = evK gS fi23 c23_3 fr st (.seq c23_10 k) ∧
 (evK gS fi23 c23_0 fr st k = opsR gS fi23 [op1 1 (.box 27 (.tmp 0)) 0,
 op1 2 (.assign (.const (.bool false))) 4] fr st (.seq c23_2 k)) := ⟨evK_rs 2 rfl (by kernel_rfl), rfl, evK_rs 1 rfl (by kernel_rfl), evK_r 8 (by kernel_rfl), rfl, evK_rs 7 rfl (by kernel_rfl), rfl, evK_rs 6 rfl (by kernel_rfl), rfl, evK_rs 5 rfl (by kernel_rfl), rfl, evK_rs 4 rfl (by kernel_rfl), evK_rs 9 rfl (by kernel_rfl), evK_rs 12 rfl (by kernel_rfl), evK_rs 11 rfl (by kernel_rfl), evK_rs 18 rfl (by kernel_rfl), rfl, evK_rs 17 rfl (by kernel_rfl), evK_rs 16 rfl (by kernel_rfl), evK_r 19 (by kernel_rfl), rfl, rfl, evK_rs 15 rfl (by kernel_rfl), rfl, evK_rs 14 rfl (by kernel_rfl), evK_rs 20 rfl (by kernel_rfl), rfl, rfl, evK_rs 13 rfl (by kernel_rfl), rfl, evK_rs 10 rfl (by kernel_rfl), rfl, rfl, rfl, evK_rs 3 rfl (by kernel_rfl), evK_rs 21 rfl (by kernel_rfl), rfl, rfl, evK_rs 0 rfl (by kernel_rfl)⟩
theorem m23 : mini fi23.body = c23_0 := by kernel_rfl
theorem n23_51 (fr : Fr) (st : St) (k : Kt) : nextK gS fi23 (.loop c23_52 k) .normal fr st = evK gS fi23 c23_51 fr st k := rfl
set_option maxHeartbeats 4000000 in
theorem L23_51 (p : Pred) (h_p : p.ok) (st : St) : ∀ (n i : Nat) (j : Int)  (e0 e1 e2 e3 e4 e6 e11 e12 : E) (T : List (Nat × E)) (X : List (Nat × List V)) (ht0 : e0.Tame) (ht1 : e1.Tame) (ht2 : e2.Tame) (ht3 : e3.Tame) (ht4 : e4.Tame) (ht6 : e6.Tame) (ht11 : e11.Tame) (ht12 : e12.Tame) , j = (i : Int) → i ≤ (p.set).length → (p.set).length - i = n →
    evK gS fi23 c23_51 { ps := [(0, e0), (1, e1), (2, e2), (3, e3), (4, e4), (6, e6), (11, e11), (12, e12), (40, .val (.slice (encVals p.set))), (41, .val (.int .i64 p.set.length)), (42, .val (.int .i64 j))], ts := T, lc := X } st (.blk 1 (.seq c23_70 (.blk 0 (.seq c23_74 .nil)))) = some ((.ret (.bool ((p.set.drop i).all vnan)) none), st) := by
  intro n
  have hm : fi23.marks = [] := rfl
  have hl : fi23.locals = [1, 6] := rfl
  have hr : fi23.results = [.tmp 2] := rfl
  have hpo := h_p.2
  induction n with
  | zero =>
    intro i j  e0 e1 e2 e3 e4 e6 e11 e12 T X ht0 ht1 ht2 ht3 ht4 ht6 ht11 ht12  hj hi hn
    obtain rfl : i = (p.set).length := by omega
    subst hj
    refine evK_loop c23_52 _ st _ _ rfl ?_
    simp (config := { contextual := true, maxSteps := 10000000, maxDischargeDepth := 6 }) [-Int.not_le, -Int.not_lt, -Nat.not_le, -Nat.not_lt, ty3, ty4, ty24, ty25, ty27, eq24, hm, hl, hr, k19, k75, k80, E23, n23_51, ht0, ht1, ht2, ht3, ht4, ht6, ht11, ht12]
    all_goals first | done | grind | omega | (trace_state; fail)
  | succ n ih =>
    intro i j  e0 e1 e2 e3 e4 e6 e11 e12 T X ht0 ht1 ht2 ht3 ht4 ht6 ht11 ht12  hj hi hn
    subst hj
    obtain ⟨x, hx⟩ : ∃ x, (p.set)[i]? = some x := ⟨(p.set)[i]'(by omega), List.getElem?_eq_getElem (by omega)⟩
    have hd := drop_get hx
    have hlt : (i : Int) < ((p.set).length : Int) := by omega
    have hlt2 : i < (p.set).length := by omega
    have hxe : (p.set)[i]'hlt2 = x := by rw [List.getElem?_eq_getElem hlt2] at hx; exact Option.some.inj hx
    have hw : IntKind.wrap .i64 ((i : Int) + 1) = (i : Int) + 1 := wrap64 (by omega) (by omega)
    have IH := fun e0 e1 e2 e3 e4 e6 e11 e12 T X ht0 ht1 ht2 ht3 ht4 ht6 ht11 ht12 => ih (i + 1) ((i : Int) + 1) e0 e1 e2 e3 e4 e6 e11 e12 T X ht0 ht1 ht2 ht3 ht4 ht6 ht11 ht12 rfl (by omega) (by omega)
    refine evK_loop c23_52 _ st _ _ rfl ?_
    simp (config := { contextual := true, maxSteps := 10000000, maxDischargeDepth := 6 }) [-Int.not_le, -Int.not_lt, -Nat.not_le, -Nat.not_lt, ty3, ty4, ty24, ty25, ty27, eq24, hm, hl, hr, k19, k75, k80, E23, n23_51, ht0, ht1, ht2, ht3, ht4, ht6, ht11, ht12, hx, hxe, hd, hlt, hlt2, hw, IH]
    all_goals first | done | grind | omega | (trace_state; fail)
set_option maxHeartbeats 4000000 in
theorem c23 (p : Pred)  (h_p : Pred.ok p) (st : St) : EvF gS 23 [p.enc] st = some (.ret (.bool (pvoid p)) none, st) := by
  refine EvF_start fi23_eq (fun x h => by cases h) m23 ?_
  rw [st23]
  have hm : fi23.marks = [] := rfl
  have hl : fi23.locals = [1, 6] := rfl
  have hr : fi23.results = [.tmp 2] := rfl
  simp (config := { contextual := true, maxSteps := 10000000, maxDischargeDepth := 6 }) [-Int.not_le, -Int.not_lt, -Nat.not_le, -Nat.not_lt, ty3, ty4, ty24, ty25, ty27, eq24, hm, hl, hr, k19, k75, k80, E23, n23_51, (fun e0 e1 e2 e3 e4 e6 e11 e12 T X ht0 ht1 ht2 ht3 ht4 ht6 ht11 ht12 => L23_51 p h_p st _ 0 0  e0 e1 e2 e3 e4 e6 e11 e12 T X ht0 ht1 ht2 ht3 ht4 ht6 ht11 ht12 rfl (Nat.zero_le _) rfl), h_p.1, h_p.2]
  all_goals try simp (config := { contextual := true }) [-Int.not_le, -Int.not_lt, -Nat.not_le, -Nat.not_lt, pvoid]
  all_goals first | done | grind | omega | (trace_state; fail)
theorem k23 (p_name : List UInt8) (p_test : Int) (p_vk : Int) (p_vn : Int) (p_vx : Nat) (p_vs : List UInt8) (p_vb : Bool) (p_wk : Int) (p_wn : Int) (p_wx : Nat) (p_ws : List UInt8) (p_wb : Bool) (p_set : List Val)  (h_p : Pred.ok (⟨p_name, p_test, ⟨p_vk, p_vn, p_vx, p_vs, p_vb⟩, ⟨p_wk, p_wn, p_wx, p_ws, p_wb⟩, p_set⟩ : Pred)) (fr : Fr) (st : St) : callStep gS (EvF gS) 23 [.agg [.str p_name, .int .i64 p_test, .int .i64 p_vk, .int .i64 p_vn, .float .f64 p_vx, .str p_vs, .bool p_vb, .int .i64 p_wk, .int .i64 p_wn, .float .f64 p_wx, .str p_ws, .bool p_wb, .slice (encVals p_set)]] fr st = some (.ok (retE none (.bool (pvoid (⟨p_name, p_test, ⟨p_vk, p_vn, p_vx, p_vs, p_vb⟩, ⟨p_wk, p_wn, p_wx, p_ws, p_wb⟩, p_set⟩ : Pred)))) fr st) :=
  call_pure rfl fi23_eq rfl (fun st => c23 (⟨p_name, p_test, ⟨p_vk, p_vn, p_vx, p_vs, p_vb⟩, ⟨p_wk, p_wn, p_wx, p_ws, p_wb⟩, p_set⟩ : Pred) h_p st) (by simp)
def fi24 : FI := { body := codeOf Try.f24, ntmps := 59, results := [.tmp 2], pers := [0, 1, 2, 3, 4, 5, 10, 11], locals := [1], pure := true, marks := [] }
theorem fi24_eq : gS.fn 24 = some fi24 := by kernel_rfl
theorem st24 (a0 : V) : startFr fi24 [a0] = { ps := [(0, .val a0), (1, .any), (2, .any), (3, .any), (4, .any), (5, .any), (10, .any), (11, .any)], ts := [], lc := [] } := rfl
def b24 : Code := mini (codeOf Try.f24)
def c24_6 : Code := .seq (codeN b24 37) .ret
def c24_5 : Code := .cond (.tmp 8) c24_6 .skip
def c24_3 : Code := .seq (codeN b24 9) c24_5
def c24_31 : Code := codeN b24 32715
def c24_29 : Code := .cond (.tmp 11) .skip c24_31
def c24_27 : Code := .seq (codeN b24 12235) c24_29
def c24_25 : Code := .cond (.tmp 11) .skip c24_27
def c24_23 : Code := .seq (codeN b24 3019) c24_25
def c24_21 : Code := .cond (.tmp 11) .skip c24_23
def c24_19 : Code := .seq (codeN b24 715) c24_21
def c24_17 : Code := .cond (.tmp 11) .skip c24_19
def c24_15 : Code := .seq (codeN b24 139) c24_17
def c24_33 : Code := .seq (codeN b24 299) .ret
def c24_41 : Code := .seq (codeN b24 2795) .ret
def c24_39 : Code := .seq (codeN b24 1259) c24_41
def c24_55 : Code := .cond (.tmp 45) .skip (.exit 1)
def c24_53 : Code := .seq (codeN b24 136171) c24_55
def r24_61 : Array Oper := regOps (codeN (codeOf Try.f24) 562155)
def c24_61 : Code := .region 17 r24_61 true
def q24_61 : List (Oper × Fl) := [(op1 48 (.fieldAddr 27 (.tmp 1) 4) 0, ⟨true, false, true, false, false, false, true, true, false, false, []⟩),
 (ld 49 25 48 25, ⟨true, false, true, false, false, false, true, true, false, false, []⟩),
 (mv 50 5 3, ⟨true, false, true, false, false, false, true, true, false, false, []⟩),
 (ixa 51 25 49 50 0, ⟨true, false, true, false, false, false, true, true, false, false, []⟩),
 (ld 52 24 51 24, ⟨true, false, true, false, false, false, true, true, false, false, []⟩),
 (op1 53 (.fieldAddr 27 (.tmp 1) 4) 0, ⟨true, false, true, false, false, false, true, true, false, false, []⟩),
 (ld 54 25 53 25, ⟨true, false, true, false, false, false, true, true, false, false, []⟩),
 (mv 55 5 3, ⟨true, false, true, false, true, false, true, true, false, false, []⟩),
 (ixa 56 25 54 55 0, ⟨true, false, true, false, true, false, true, true, false, false, []⟩),
 (ld 57 24 56 24, ⟨true, false, true, false, true, false, true, true, false, false, []⟩),
 (cal 58 79 [(.tmp 52), (.tmp 57)] [24, 24] 4, ⟨true, true, true, false, true, true, true, true, false, false, []⟩)]
def c24_63 : Code := .seq (codeN b24 2397163) .ret
def c24_62 : Code := .cond (.tmp 58) c24_63 .skip
def c24_60 : Code := .seq c24_61 c24_62
def c24_67 : Code := codeN b24 234475
def c24_58 : Code := .seq (.block 2 c24_60) c24_67
def c24_52 : Code := .seq c24_53 c24_58
def c24_51 : Code := .loop c24_52
def c24_50 : Code := .block 1 c24_51
def c24_48 : Code := .seq (codeN b24 9195) c24_50
def c24_68 : Code := .seq (codeN b24 11243) .ret
def c24_47 : Code := .seq c24_48 c24_68
def c24_46 : Code := .cond (.tmp 39) c24_47 .skip
def c24_44 : Code := .seq (codeN b24 1515) c24_46
def c24_38 : Code := .cond (.tmp 23) c24_39 c24_44
def c24_36 : Code := .seq (codeN b24 363) c24_38
def c24_32 : Code := .cond (.tmp 11) c24_33 c24_36
def c24_14 : Code := .seq c24_15 c24_32
def c24_13 : Code := .block 0 c24_14
def c24_11 : Code := .seq (codeN b24 19) c24_13
def c24_72 : Code := .seq (codeN b24 23) .ret
def c24_10 : Code := .seq c24_11 c24_72
def c24_2 : Code := .seq c24_3 c24_10
def c24_0 : Code := .seq (codeN b24 2) c24_2
theorem E24 : evK gS fi24 c24_6 fr st k = opsR gS fi24 [op1 2 (.assign (.const (.bool false))) 4] fr st (.seq .ret k) ∧
 evK gS fi24 c24_5 fr st k = condK gS fi24 (fr.op (.tmp 8)).bool? c24_6 .skip fr st k ∧
 (evK gS fi24 c24_3 fr st k = opsR gS fi24 [ld 6 27 1 27,
 cal 7 20 [(.tmp 6)] [27] 4,
 op1 8 (.unOp .not 4 (.tmp 7)) 4] fr st (.seq c24_5 k)) ∧
 (evK gS fi24 c24_31 fr st k = opsR gS fi24 [op1 16 (.binOp .eql 3 (.tmp 10) (.const (.int .i64 7)) 3) 4,
 asn 11 16 4] fr st k) ∧
 evK gS fi24 c24_29 fr st k = condK gS fi24 (fr.op (.tmp 11)).bool? .skip c24_31 fr st k ∧
 (evK gS fi24 c24_27 fr st k = opsR gS fi24 [op1 15 (.binOp .eql 3 (.tmp 10) (.const (.int .i64 6)) 3) 4,
 asn 11 15 4] fr st (.seq c24_29 k)) ∧
 evK gS fi24 c24_25 fr st k = condK gS fi24 (fr.op (.tmp 11)).bool? .skip c24_27 fr st k ∧
 (evK gS fi24 c24_23 fr st k = opsR gS fi24 [op1 14 (.binOp .eql 3 (.tmp 10) (.const (.int .i64 5)) 3) 4,
 asn 11 14 4] fr st (.seq c24_25 k)) ∧
 evK gS fi24 c24_21 fr st k = condK gS fi24 (fr.op (.tmp 11)).bool? .skip c24_23 fr st k ∧
 (evK gS fi24 c24_19 fr st k = opsR gS fi24 [op1 13 (.binOp .eql 3 (.tmp 10) (.const (.int .i64 4)) 3) 4,
 asn 11 13 4] fr st (.seq c24_21 k)) ∧
 evK gS fi24 c24_17 fr st k = condK gS fi24 (fr.op (.tmp 11)).bool? .skip c24_19 fr st k ∧
 (evK gS fi24 c24_15 fr st k = opsR gS fi24 [op1 12 (.binOp .eql 3 (.tmp 10) (.const (.int .i64 2)) 3) 4,
 asn 11 12 4] fr st (.seq c24_17 k)) ∧
 (evK gS fi24 c24_33 fr st k = opsR gS fi24 [op1 17 (.fieldAddr 27 (.tmp 1) 2) 0,
 ld 18 24 17 24,
 op1 19 (.fieldAddr 27 (.tmp 1) 2) 0,
 ld 20 24 19 24,
 cal 21 79 [(.tmp 18), (.tmp 20)] [24, 24] 4,
 op1 22 (.unOp .not 4 (.tmp 21)) 4,
 asn 2 22 4] fr st (.seq .ret k)) ∧
 (evK gS fi24 c24_41 fr st k = opsR gS fi24 [mv 33 4 4,
 op1 34 (.unOp .not 4 (.tmp 33)) 4,
 mv 35 34 4,
 mk (some 36) (.move (.tmp 3)) 3 (some (2, false)),
 mk (some 37) (.binOp .gtr 3 (.tmp 36) (.const (.int .i64 0)) 3) 4 (some (2, false)),
 op1 38 (.pick (.tmp 35) (.const (.bool true)) (.tmp 37)) 4,
 asn 2 38 4] fr st (.seq .ret k)) ∧
 (evK gS fi24 c24_39 fr st k = opsR gS fi24 [op1 26 (.fieldAddr 27 (.tmp 1) 2) 0,
 ld 27 24 26 24,
 op1 28 (.fieldAddr 27 (.tmp 1) 3) 0,
 ld 29 24 28 24,
 cal 30 77 [(.tmp 27), (.tmp 29)] [24, 24] 94,
 mv 25 30 94,
 op1 31 (.extract (.tmp 25) 0) 3,
 op1 32 (.extract (.tmp 25) 1) 4,
 asn 3 31 3,
 asn 4 32 4] fr st (.seq c24_41 k)) ∧
 evK gS fi24 c24_55 fr st k = condK gS fi24 (fr.op (.tmp 45)).bool? .skip (.exit 1) fr st k ∧
 (evK gS fi24 c24_53 fr st k = opsR gS fi24 [mv 41 5 3,
 op1 42 (.fieldAddr 27 (.tmp 1) 4) 0,
 ld 43 25 42 25,
 len1 44 43 25 3,
 bop 45 .lss 3 41 44 3 4] fr st (.seq c24_55 k)) ∧
 evK gS fi24 c24_61 fr st k = drwR gS fi24 r24_61 q24_61 fr st k ∧
 evK gS fi24 c24_63 fr st k = opsR gS fi24 [op1 2 (.assign (.const (.bool false))) 4] fr st (.seq .ret k) ∧
 evK gS fi24 c24_62 fr st k = condK gS fi24 (fr.op (.tmp 58)).bool? c24_63 .skip fr st k ∧
 evK gS fi24 c24_60 fr st k = evK gS fi24 c24_61 fr st (.seq c24_62 k) ∧
 (evK gS fi24 c24_67 fr st k = opsR gS fi24 [mv 46 5 3,
 op1 47 (.binOp .add 3 (.tmp 46) (.const (.int .i64 1)) 3) 3,
 asn 5 47 3] fr st k) ∧
 evK gS fi24 c24_58 fr st k = evK gS fi24 c24_60 fr st (.blk 2 (.seq c24_67 k)) ∧
 evK gS fi24 c24_52 fr st k = evK gS fi24 c24_53 fr st (.seq c24_58 k) ∧
 evK gS fi24 c24_50 fr st k = evK gS fi24 c24_51 fr st (.blk 1 k) ∧
 evK gS fi24 c24_48 fr st k = opsR gS fi24 [op1 5 (.assign (.const (.int .i64 0))) 3] fr st (.seq c24_50 k) ∧
 evK gS fi24 c24_68 fr st k = opsR gS fi24 [op1 2 (.assign (.const (.bool true))) 4] fr st (.seq .ret k) ∧
 evK gS fi24 c24_47 fr st k = evK gS fi24 c24_48 fr st (.seq c24_68 k) ∧
 evK gS fi24 c24_46 fr st k = condK gS fi24 (fr.op (.tmp 39)).bool? c24_47 .skip fr st k ∧
 (evK gS fi24 c24_44 fr st k = opsR gS fi24 [op1 40 (.binOp .eql 3 (.tmp 10) (.const (.int .i64 10)) 3) 4,
 asn 39 40 4] fr st (.seq c24_46 k)) ∧
 evK gS fi24 c24_38 fr st k = condK gS fi24 (fr.op (.tmp 23)).bool? c24_39 c24_44 fr st k ∧
 (evK gS fi24 c24_36 fr st k = opsR gS fi24 [op1 24 (.binOp .eql 3 (.tmp 10) (.const (.int .i64 8)) 3) 4,
 asn 23 24 4] fr st (.seq c24_38 k)) ∧
 evK gS fi24 c24_32 fr st k = condK gS fi24 (fr.op (.tmp 11)).bool? c24_33 c24_36 fr st k ∧
 evK gS fi24 c24_14 fr st k = evK gS fi24 c24_15 fr st (.seq c24_32 k) ∧
 evK gS fi24 c24_13 fr st k = evK gS fi24 c24_14 fr st (.blk 0 k) ∧
 (evK gS fi24 c24_11 fr st k = opsR gS fi24 [op1 9 (.fieldAddr 27 (.tmp 1) 1) 0,
 ld 10 3 9 3] fr st (.seq c24_13 k)) ∧
 evK gS fi24 c24_72 fr st k = opsR gS fi24 [op1 2 (.assign (.const (.bool false))) 4] fr st (.seq .ret k) ∧
 evK gS fi24 c24_10 fr st k = evK gS fi24 c24_11 fr st (.seq c24_72 k) ∧
 evK gS fi24 c24_2 fr st k = evK gS fi24 c24_3 fr st (.seq c24_10 k) ∧
 (evK gS fi24 c24_0 fr st k = opsR gS fi24 [op1 1 (.box 27 (.tmp 0)) 0,
 op1 2 (.assign (.const (.bool false))) 4] fr st (.seq c24_2 k)) := ⟨evK_rs 2 rfl (by kernel_rfl), rfl, evK_rs 1 rfl (by kernel_rfl), evK_r 8 (by kernel_rfl), rfl, evK_rs 7 rfl (by kernel_rfl), rfl, evK_rs 6 rfl (by kernel_rfl), rfl, evK_rs 5 rfl (by kernel_rfl), rfl, evK_rs 4 rfl (by kernel_rfl), evK_rs 9 rfl (by kernel_rfl), evK_rs 12 rfl (by kernel_rfl), evK_rs 11 rfl (by kernel_rfl), rfl, evK_rs 15 rfl (by kernel_rfl), evK_dr 17 rfl (by kernel_rfl) (by kernel_rfl), evK_rs 18 rfl (by kernel_rfl), rfl, rfl, evK_r 16 (by kernel_rfl), rfl, rfl, rfl, evK_rs 14 rfl (by kernel_rfl), evK_rs 19 rfl (by kernel_rfl), rfl, rfl, evK_rs 13 rfl (by kernel_rfl), rfl, evK_rs 10 rfl (by kernel_rfl), rfl, rfl, rfl, evK_rs 3 rfl (by kernel_rfl), evK_rs 20 rfl (by kernel_rfl), rfl, rfl, evK_rs 0 rfl (by kernel_rfl)⟩
theorem m24 : mini fi24.body = c24_0 := by kernel_rfl
theorem n24_51 (fr : Fr) (st : St) (k : Kt) : nextK gS fi24 (.loop c24_52 k) .normal fr st = evK gS fi24 c24_51 fr st k := rfl
set_option maxHeartbeats 4000000 in
theorem L24_51 (p : Pred) (h_p : p.ok) (st : St) : ∀ (n i : Nat) (j : Int)  (e0 e2 e3 e4 e10 e11 : E) (T : List (Nat × E)) (X : List (Nat × List V)) (ht0 : e0.Tame) (ht2 : e2.Tame) (ht3 : e3.Tame) (ht4 : e4.Tame) (ht10 : e10.Tame) (ht11 : e11.Tame) (hx1 : lk X 1 = some [.str p.name, .int .i64 p.test, .int .i64 p.v.kind, .int .i64 p.v.n, .float .f64 p.v.x, .str p.v.s, .bool p.v.b, .int .i64 p.w.kind, .int .i64 p.w.n, .float .f64 p.w.x, .str p.w.s, .bool p.w.b, .slice (encVals p.set)]) , j = (i : Int) → i ≤ (p.set).length → (p.set).length - i = n →
    evK gS fi24 c24_51 { ps := [(0, e0), (1, .lp 1 0), (2, e2), (3, e3), (4, e4), (5, .val (.int .i64 j)), (10, e10), (11, e11)], ts := T, lc := X } st (.blk 1 (.seq c24_68 (.blk 0 (.seq c24_72 .nil)))) = some ((.ret (.bool ((p.set.drop i).all (fun v => !vis v v))) none), st) := by
  intro n
  have hm : fi24.marks = [] := rfl
  have hl : fi24.locals = [1] := rfl
  have hr : fi24.results = [.tmp 2] := rfl
  have hpo := h_p.2
  induction n with
  | zero =>
    intro i j  e0 e2 e3 e4 e10 e11 T X ht0 ht2 ht3 ht4 ht10 ht11 hx1  hj hi hn
    obtain rfl : i = (p.set).length := by omega
    subst hj
    refine evK_loop c24_52 _ st _ _ rfl ?_
    simp (config := { contextual := true, maxSteps := 10000000, maxDischargeDepth := 6 }) [-Int.not_le, -Int.not_lt, -Nat.not_le, -Nat.not_lt, ty3, ty4, ty24, ty25, ty27, eq24, hm, hl, hr, k20, x20, fi20_eq, p20, k77, x77, fi77_eq, p77, k79, x79, fi79_eq, p79, E24, q24_61, n24_51, ht0, ht2, ht3, ht4, ht10, ht11, hx1]
    all_goals first | done | grind | omega | (trace_state; fail)
  | succ n ih =>
    intro i j  e0 e2 e3 e4 e10 e11 T X ht0 ht2 ht3 ht4 ht10 ht11 hx1  hj hi hn
    subst hj
    obtain ⟨x, hx⟩ : ∃ x, (p.set)[i]? = some x := ⟨(p.set)[i]'(by omega), List.getElem?_eq_getElem (by omega)⟩
    have hd := drop_get hx
    have hlt : (i : Int) < ((p.set).length : Int) := by omega
    have hlt2 : i < (p.set).length := by omega
    have hxe : (p.set)[i]'hlt2 = x := by rw [List.getElem?_eq_getElem hlt2] at hx; exact Option.some.inj hx
    have hw : IntKind.wrap .i64 ((i : Int) + 1) = (i : Int) + 1 := wrap64 (by omega) (by omega)
    have IH := fun e0 e2 e3 e4 e10 e11 T X ht0 ht2 ht3 ht4 ht10 ht11 hx1 => ih (i + 1) ((i : Int) + 1) e0 e2 e3 e4 e10 e11 T X ht0 ht2 ht3 ht4 ht10 ht11 hx1 rfl (by omega) (by omega)
    refine evK_loop c24_52 _ st _ _ rfl ?_
    simp (config := { contextual := true, maxSteps := 10000000, maxDischargeDepth := 6 }) [-Int.not_le, -Int.not_lt, -Nat.not_le, -Nat.not_lt, ty3, ty4, ty24, ty25, ty27, eq24, hm, hl, hr, k20, x20, fi20_eq, p20, k77, x77, fi77_eq, p77, k79, x79, fi79_eq, p79, E24, q24_61, n24_51, ht0, ht2, ht3, ht4, ht10, ht11, hx1, hx, hxe, hd, hlt, hlt2, hw, IH]
    all_goals first | done | grind | omega | (trace_state; fail)
set_option maxHeartbeats 4000000 in
theorem c24 (p : Pred)  (h_p : Pred.ok p) (st : St) : EvF gS 24 [p.enc] st = some (.ret (.bool (pvoid p)) none, st) := by
  refine EvF_start fi24_eq (fun x h => by cases h) m24 ?_
  rw [st24]
  have hm : fi24.marks = [] := rfl
  have hl : fi24.locals = [1] := rfl
  have hr : fi24.results = [.tmp 2] := rfl
  simp (config := { contextual := true, maxSteps := 10000000, maxDischargeDepth := 6 }) [-Int.not_le, -Int.not_lt, -Nat.not_le, -Nat.not_lt, ty3, ty4, ty24, ty25, ty27, eq24, hm, hl, hr, k20, x20, fi20_eq, p20, k77, x77, fi77_eq, p77, k79, x79, fi79_eq, p79, E24, q24_61, n24_51, (fun e0 e2 e3 e4 e10 e11 T X ht0 ht2 ht3 ht4 ht10 ht11 hx1 => L24_51 p h_p st _ 0 0  e0 e2 e3 e4 e10 e11 T X ht0 ht2 ht3 ht4 ht10 ht11 hx1 rfl (Nat.zero_le _) rfl), h_p.1, h_p.2]
  all_goals try simp (config := { contextual := true }) [-Int.not_le, -Int.not_lt, -Nat.not_le, -Nat.not_lt, pvoid]
  all_goals (intro hp; have hf := right_facts hp; grind)
theorem k24 (p_name : List UInt8) (p_test : Int) (p_vk : Int) (p_vn : Int) (p_vx : Nat) (p_vs : List UInt8) (p_vb : Bool) (p_wk : Int) (p_wn : Int) (p_wx : Nat) (p_ws : List UInt8) (p_wb : Bool) (p_set : List Val)  (h_p : Pred.ok (⟨p_name, p_test, ⟨p_vk, p_vn, p_vx, p_vs, p_vb⟩, ⟨p_wk, p_wn, p_wx, p_ws, p_wb⟩, p_set⟩ : Pred)) (fr : Fr) (st : St) : callStep gS (EvF gS) 24 [.agg [.str p_name, .int .i64 p_test, .int .i64 p_vk, .int .i64 p_vn, .float .f64 p_vx, .str p_vs, .bool p_vb, .int .i64 p_wk, .int .i64 p_wn, .float .f64 p_wx, .str p_ws, .bool p_wb, .slice (encVals p_set)]] fr st = some (.ok (retE none (.bool (pvoid (⟨p_name, p_test, ⟨p_vk, p_vn, p_vx, p_vs, p_vb⟩, ⟨p_wk, p_wn, p_wx, p_ws, p_wb⟩, p_set⟩ : Pred)))) fr st) :=
  call_pure rfl fi24_eq rfl (fun st => c24 (⟨p_name, p_test, ⟨p_vk, p_vn, p_vx, p_vs, p_vb⟩, ⟨p_wk, p_wn, p_wx, p_ws, p_wb⟩, p_set⟩ : Pred) h_p st) (by simp)
theorem x24 : gS.ext 24 = none := rfl
theorem p24 : fi24.pure = true := rfl
end
end Go.Proofs.Ytclpbfkbpcjejaa
namespace Go.Ab
open Go
set_option linter.unusedVariables false
set_option linter.unusedSimpArgs false
set_option linter.unnecessarySimpa false
def rest71 (q p : Pred) : Bool := if q.test = 9 ∧ p.test = 9 then isPre q.v.s p.v.s else if q.test = 9 ∧ (p.test = 7 ∨ p.test = 6) then (cmp q.v p.v).2 && (decide ((cmp q.v p.v).1 > 0) || (decide ((cmp q.v p.v).1 = 0) && decide (p.test = 7))) else false
def restR (q p : Pred) : Bool := if p.test = 3 then !ptakes q p.v else if q.test = 2 then ptakes p q.v else if q.test = 10 then q.set.all (fun v => !vis v v || ptakes p v)
    else if 4 ≤ q.test ∧ q.test ≤ 8 ∧ 4 ≤ p.test ∧ p.test ≤ 8 then within (lowR q) (lowR p) 1 && within (highR q) (highR p) (-1)
    else if q.test = 9 ∧ p.test = 9 then isPre q.v.s p.v.s else if q.test = 9 ∧ (p.test = 7 ∨ p.test = 6) then (cmp q.v p.v).2 && (decide ((cmp q.v p.v).1 > 0) || (decide ((cmp q.v p.v).1 = 0) && decide (p.test = 7))) else false
def endedB (p : Pred) : Bool := decide (4 ≤ p.test) && decide (p.test ≤ 8)
theorem low_key (r : Pred) : lowR r = lowE r ∨ ((lowR r).is = false ∧ (lowE r).is = false) := by
  unfold lowR lowE
  by_cases h6 : r.test = 6
  · simp [h6]
  · by_cases h7 : r.test = 7
    · simp [h7]
    · by_cases h8 : r.test = 8
      · simp [h8]
      · simp [h6, h7, h8]
theorem high_key (r : Pred) : highR r = highE r ∨ ((highR r).is = false ∧ (highE r).is = false) := by
  unfold highR highE
  by_cases h6 : r.test = 4
  · simp [h6]
  · by_cases h7 : r.test = 5
    · simp [h7]
    · by_cases h8 : r.test = 8
      · simp [h8]
      · simp [h6, h7, h8]
theorem within_key {a b c d : PEnd} (h1 : a = b ∨ (a.is = false ∧ b.is = false)) (h2 : c = d ∨ (c.is = false ∧ d.is = false)) (s : Int) : within a c s = within b d s := by
  unfold within
  rcases h2 with rfl | ⟨h2, h3⟩
  · rcases h1 with rfl | ⟨h4, h5⟩
    · rfl
    · simp [h4, h5]
  · simp [h2, h3]
theorem ended_key (q : Pred) : ((lowE q).is || (highE q).is) = (decide (4 ≤ q.test) && decide (q.test ≤ 8)) := by
  unfold lowE highE
  by_cases h4 : q.test = 4
  · simp [h4]
  · by_cases h5 : q.test = 5
    · simp [h5]
    · by_cases h6 : q.test = 6
      · simp [h6]
      · by_cases h7 : q.test = 7
        · simp [h7]
        · by_cases h8 : q.test = 8
          · simp [h8]
          · simp [h4, h5, h6, h7, h8]; omega
theorem all_or {l : List Val} (h : l.all vright = true) (f : Val → Bool) : l.all (fun v => !vis v v || f v) = l.all (fun v => vnan v || f v) := by
  induction l with
  | nil => rfl
  | cons v r ih =>
    simp only [List.all_cons, Bool.and_eq_true] at h
    simp only [List.all_cons, ih h.2, vis_self h.1, Bool.not_not]
theorem right_set {p : Pred} (h : pright p = true) (ht : p.test = 10) : p.set.all vright = true := by
  unfold pright at h
  simp [ht] at h
  exact List.all_eq_true.2 h.2.2
theorem pimplies_eq {q p : Pred} (hq : pright q = true) (hp : pright p = true) (hv : pvoid q = false) (h1 : ¬ p.test = 1) :
    pimplies q p = if q.test = p.test && (vsame q.v p.v && vsame q.w p.w && sames q.set p.set) then true else restR q p := by
  unfold pimplies
  rw [hq, hp, hv]
  simp only [Bool.and_self, if_true, Bool.false_eq_true, h1, decide_false, Bool.or_self, if_false]
  split
  · rfl
  · unfold restR
    split
    · rfl
    · split
      · rfl
      · split
        · rename_i h10
          rw [all_or (right_set hq h10)]
        · rw [ended_key, ended_key, within_key (low_key q) (low_key p), within_key (high_key q) (high_key p)]
          by_cases ha : 4 ≤ q.test ∧ q.test ≤ 8 ∧ 4 ≤ p.test ∧ p.test ≤ 8
          · obtain ⟨a1, a2, a3, a4⟩ := ha
            simp [a1, a2, a3, a4]
          · rw [if_neg ha, if_neg (by simp only [Bool.and_eq_true, decide_eq_true_eq]; exact fun h => ha ⟨h.1.1, h.1.2, h.2.1, h.2.2⟩)]
            by_cases h9 : q.test = 9
            · by_cases p9 : p.test = 9
              · simp [h9, p9]
              · by_cases p7 : p.test = 7
                · simp only [h9, p7]
                  rcases cmp_tri q.v p.v with e | e | e <;> simp [e]
                · by_cases p6 : p.test = 6
                  · simp [h9, p6]
                  · simp [h9, p9, p7, p6]
            · simp [h9]
end Go.Ab
namespace Go.Proofs.Ytclpbfkbpcjejaa
open Go Go.Ab
set_option linter.unusedVariables false
set_option linter.unusedSimpArgs false
set_option linter.unnecessarySimpa false
set_option maxRecDepth 20000
noncomputable section
variable (fr : Fr) (st : St) (k : Kt)
def fi85 : FI := { body := codeOf Try.f85, ntmps := 34, results := [.cell 2 99, .cell 3 99], pers := [0, 1, 2, 3, 5, 6, 15], locals := [1, 2, 3], pure := true, marks := [] }
theorem fi85_eq : gS.fn 85 = some fi85 := by kernel_rfl
theorem st85 (a0 : V) : startFr fi85 [a0] = { ps := [(0, .val a0), (1, .any), (2, .any), (3, .any), (5, .any), (6, .any), (15, .any)], ts := [], lc := [] } := rfl
def b85 : Code := mini (codeOf Try.f85)
def c85_11 : Code := codeN b85 229
def c85_9 : Code := .cond (.tmp 6) .skip c85_11
def c85_7 : Code := .seq (codeN b85 69) c85_9
def c85_13 : Code := codeN b85 85
def c85_19 : Code := codeN b85 949
def c85_17 : Code := .cond (.tmp 15) .skip c85_19
def c85_15 : Code := .seq (codeN b85 309) c85_17
def c85_21 : Code := codeN b85 373
def r85_25 : Array Oper := regOps (codeN (codeOf Try.f85) 1525)
def c85_25 : Code := .region 9 r85_25 true
def q85_25 : List (Oper × Fl) := [(op1 26 (.fieldAddr 27 (.tmp 1) 2) 0, ⟨true, false, true, false, false, false, true, true, false, false, []⟩),
 (ld 27 24 26 24, ⟨true, false, true, false, false, false, true, true, false, false, []⟩),
 (op1 28 (.build 99 #[(0, (.const (.bool true))), (2, (.tmp 27))]) 99, ⟨true, false, true, false, false, false, true, true, false, false, []⟩),
 (op1 29 (.fieldAddr 27 (.tmp 1) 3) 0, ⟨true, false, false, false, false, false, true, false, false, false, []⟩),
 (ld 30 24 29 24, ⟨true, false, false, false, false, false, true, false, false, false, [2]⟩),
 (op1 31 (.build 99 #[(0, (.const (.bool true))), (2, (.tmp 30))]) 99, ⟨true, false, false, false, false, false, true, false, false, false, []⟩),
 (sto 99 2 28, ⟨false, true, true, false, true, true, true, true, true, false, []⟩),
 (sto 99 3 31, ⟨false, true, true, false, true, true, true, true, false, false, []⟩)]
def c85_24 : Code := .cond (.tmp 24) c85_25 .skip
def c85_22 : Code := .seq (codeN b85 757) c85_24
def c85_20 : Code := .cond (.tmp 15) c85_21 c85_22
def c85_14 : Code := .seq c85_15 c85_20
def c85_12 : Code := .cond (.tmp 6) c85_13 c85_14
def c85_6 : Code := .seq c85_7 c85_12
def c85_5 : Code := .block 0 c85_6
def c85_3 : Code := .seq (codeN b85 9) c85_5
def r85_28 : Array Oper := regOps (codeN (codeOf Try.f85) 11)
def c85_28 : Code := .region 10 r85_28 true
def q85_28 : List (Oper × Fl) := [(ld 32 99 2 99, ⟨true, false, true, false, false, false, true, true, false, false, []⟩),
 (ld 33 99 3 99, ⟨true, false, false, false, false, false, true, false, false, false, [2]⟩),
 (sto 99 2 32, ⟨false, true, true, false, true, true, true, true, true, false, []⟩),
 (sto 99 3 33, ⟨false, true, true, false, true, true, true, true, false, false, []⟩)]
def c85_27 : Code := .seq c85_28 .ret
def c85_2 : Code := .seq c85_3 c85_27
def c85_0 : Code := .seq (codeN b85 2) c85_2
theorem E85 : (evK gS fi85 c85_11 fr st k = opsR gS fi85 [op1 8 (.binOp .eql 3 (.tmp 5) (.const (.int .i64 5)) 3) 4,
 asn 6 8 4] fr st k) ∧
 evK gS fi85 c85_9 fr st k = condK gS fi85 (fr.op (.tmp 6)).bool? .skip c85_11 fr st k ∧
 (evK gS fi85 c85_7 fr st k = opsR gS fi85 [op1 7 (.binOp .eql 3 (.tmp 5) (.const (.int .i64 4)) 3) 4,
 asn 6 7 4] fr st (.seq c85_9 k)) ∧
 (evK gS fi85 c85_13 fr st k = opsR gS fi85 [op1 9 (.fieldAddr 27 (.tmp 1) 1) 0,
 ld 10 3 9 3,
 op1 11 (.binOp .eql 3 (.tmp 10) (.const (.int .i64 4)) 3) 4,
 op1 12 (.fieldAddr 27 (.tmp 1) 2) 0,
 ld 13 24 12 24,
 op1 14 (.build 99 #[(0, (.const (.bool true))), (1, (.tmp 11)), (2, (.tmp 13))]) 99,
 sto 99 3 14] fr st k) ∧
 (evK gS fi85 c85_19 fr st k = opsR gS fi85 [op1 17 (.binOp .eql 3 (.tmp 5) (.const (.int .i64 7)) 3) 4,
 asn 15 17 4] fr st k) ∧
 evK gS fi85 c85_17 fr st k = condK gS fi85 (fr.op (.tmp 15)).bool? .skip c85_19 fr st k ∧
 (evK gS fi85 c85_15 fr st k = opsR gS fi85 [op1 16 (.binOp .eql 3 (.tmp 5) (.const (.int .i64 6)) 3) 4,
 asn 15 16 4] fr st (.seq c85_17 k)) ∧
 (evK gS fi85 c85_21 fr st k = opsR gS fi85 [op1 18 (.fieldAddr 27 (.tmp 1) 1) 0,
 ld 19 3 18 3,
 op1 20 (.binOp .eql 3 (.tmp 19) (.const (.int .i64 6)) 3) 4,
 op1 21 (.fieldAddr 27 (.tmp 1) 2) 0,
 ld 22 24 21 24,
 op1 23 (.build 99 #[(0, (.const (.bool true))), (1, (.tmp 20)), (2, (.tmp 22))]) 99,
 sto 99 2 23] fr st k) ∧
 evK gS fi85 c85_25 fr st k = drwR gS fi85 r85_25 q85_25 fr st k ∧
 evK gS fi85 c85_24 fr st k = condK gS fi85 (fr.op (.tmp 24)).bool? c85_25 .skip fr st k ∧
 (evK gS fi85 c85_22 fr st k = opsR gS fi85 [op1 25 (.binOp .eql 3 (.tmp 5) (.const (.int .i64 8)) 3) 4,
 asn 24 25 4] fr st (.seq c85_24 k)) ∧
 evK gS fi85 c85_20 fr st k = condK gS fi85 (fr.op (.tmp 15)).bool? c85_21 c85_22 fr st k ∧
 evK gS fi85 c85_14 fr st k = evK gS fi85 c85_15 fr st (.seq c85_20 k) ∧
 evK gS fi85 c85_12 fr st k = condK gS fi85 (fr.op (.tmp 6)).bool? c85_13 c85_14 fr st k ∧
 evK gS fi85 c85_6 fr st k = evK gS fi85 c85_7 fr st (.seq c85_12 k) ∧
 evK gS fi85 c85_5 fr st k = evK gS fi85 c85_6 fr st (.blk 0 k) ∧
 (evK gS fi85 c85_3 fr st k = opsR gS fi85 [op1 4 (.fieldAddr 27 (.tmp 1) 1) 0,
 ld 5 3 4 3] fr st (.seq c85_5 k)) ∧
 evK gS fi85 c85_28 fr st k = drwR gS fi85 r85_28 q85_28 fr st k ∧
 evK gS fi85 c85_27 fr st k = evK gS fi85 c85_28 fr st (.seq .ret k) ∧
 evK gS fi85 c85_2 fr st k = evK gS fi85 c85_3 fr st (.seq c85_27 k) ∧
 (evK gS fi85 c85_0 fr st k = opsR gS fi85 [op1 1 (.box 27 (.tmp 0)) 0,
 op1 2 (.alloc 99) 0,
 op1 3 (.alloc 99) 0] fr st (.seq c85_2 k)) := ⟨evK_r 3 (by kernel_rfl), rfl, evK_rs 2 rfl (by kernel_rfl), evK_r 4 (by kernel_rfl), evK_r 6 (by kernel_rfl), rfl, evK_rs 5 rfl (by kernel_rfl), evK_r 7 (by kernel_rfl), evK_dr 9 rfl (by kernel_rfl) (by kernel_rfl), rfl, evK_rs 8 rfl (by kernel_rfl), rfl, rfl, rfl, rfl, rfl, evK_rs 1 rfl (by kernel_rfl), evK_dr 10 rfl (by kernel_rfl) (by kernel_rfl), rfl, rfl, evK_rs 0 rfl (by kernel_rfl)⟩
theorem m85 : mini fi85.body = c85_0 := by kernel_rfl
set_option maxHeartbeats 4000000 in
theorem c85 (p : Pred)  (st : St) : EvF gS 85 [p.enc] st = some (.ret (.tuple [(lowE p).encP, (highE p).encP]) none, st) := by
  refine EvF_start fi85_eq (fun x h => by cases h) m85 ?_
  rw [st85]
  have hm : fi85.marks = [] := rfl
  have hl : fi85.locals = [1, 2, 3] := rfl
  have hr : fi85.results = [.cell 2 99, .cell 3 99] := rfl
  simp (config := { contextual := true, maxSteps := 10000000, maxDischargeDepth := 6 }) [-Int.not_le, -Int.not_lt, -Nat.not_le, -Nat.not_lt, ty3, ty4, ty24, ty27, ty99, eq24, hm, hl, hr, E85, q85_25, q85_28]
  all_goals try simp (config := { contextual := true }) [-Int.not_le, -Int.not_lt, -Nat.not_le, -Nat.not_lt, lowE, highE, vzero]
  all_goals first | done | grind | omega | (trace_state; fail)
theorem k85 (p_name : List UInt8) (p_test : Int) (p_vk : Int) (p_vn : Int) (p_vx : Nat) (p_vs : List UInt8) (p_vb : Bool) (p_wk : Int) (p_wn : Int) (p_wx : Nat) (p_ws : List UInt8) (p_wb : Bool) (p_set : List Val)  (fr : Fr) (st : St) : callStep gS (EvF gS) 85 [.agg [.str p_name, .int .i64 p_test, .int .i64 p_vk, .int .i64 p_vn, .float .f64 p_vx, .str p_vs, .bool p_vb, .int .i64 p_wk, .int .i64 p_wn, .float .f64 p_wx, .str p_ws, .bool p_wb, .slice (encVals p_set)]] fr st = some (.ok (retE none (.tuple [(lowE (⟨p_name, p_test, ⟨p_vk, p_vn, p_vx, p_vs, p_vb⟩, ⟨p_wk, p_wn, p_wx, p_ws, p_wb⟩, p_set⟩ : Pred)).encP, (highE (⟨p_name, p_test, ⟨p_vk, p_vn, p_vx, p_vs, p_vb⟩, ⟨p_wk, p_wn, p_wx, p_ws, p_wb⟩, p_set⟩ : Pred)).encP])) fr st) :=
  call_pure rfl fi85_eq rfl (fun st => c85 (⟨p_name, p_test, ⟨p_vk, p_vn, p_vx, p_vs, p_vb⟩, ⟨p_wk, p_wn, p_wx, p_ws, p_wb⟩, p_set⟩ : Pred)  st) (by simp)
def fi89 : FI := { body := codeOf Try.f89, ntmps := 22, results := [.cell 2 105], pers := [0, 1, 2], locals := [1, 2], pure := true, marks := [] }
theorem fi89_eq : gS.fn 89 = some fi89 := by kernel_rfl
theorem st89 (a0 : V) : startFr fi89 [a0] = { ps := [(0, .val a0), (1, .any), (2, .any)], ts := [], lc := [] } := rfl
def b89 : Code := mini (codeOf Try.f89)
def c89_2 : Code := .seq (codeN b89 5) .ret
theorem e89_2 : evK gS fi89 c89_2 fr st k = opsR gS fi89 [op1 3 (.fieldAddr 27 (.tmp 1) 2) 0,
 ld 4 24 3 24,
 op1 5 (.fieldAddr 27 (.tmp 1) 1) 0,
 ld 6 3 5 3,
 op1 7 (.binOp .eql 3 (.tmp 6) (.const (.int .i64 6)) 3) 4,
 mv 8 7 4,
 mk (some 9) (.fieldAddr 27 (.tmp 1) 1) 0 (some (5, false)),
 mk (some 10) (.load 3 (.tmp 9)) 3 (some (5, false)),
 mk (some 11) (.binOp .eql 3 (.tmp 10) (.const (.int .i64 7)) 3) 4 (some (5, false)),
 op1 12 (.pick (.tmp 8) (.const (.bool true)) (.tmp 11)) 4,
 mv 13 12 4,
 mk (some 14) (.fieldAddr 27 (.tmp 1) 1) 0 (some (10, false)),
 mk (some 15) (.load 3 (.tmp 14)) 3 (some (10, false)),
 mk (some 16) (.binOp .eql 3 (.tmp 15) (.const (.int .i64 8)) 3) 4 (some (10, false)),
 op1 17 (.pick (.tmp 13) (.const (.bool true)) (.tmp 16)) 4,
 op1 18 (.fieldAddr 27 (.tmp 1) 1) 0,
 ld 19 3 18 3,
 op1 20 (.binOp .eql 3 (.tmp 19) (.const (.int .i64 6)) 3) 4,
 op1 21 (.build 105 #[(0, (.tmp 4)), (1, (.tmp 17)), (2, (.tmp 20))]) 105,
 sto 105 2 21] fr st (.seq .ret k) := evK_rs 1 rfl (by kernel_rfl)
def c89_0 : Code := .seq (codeN b89 2) c89_2
theorem e89_0 : evK gS fi89 c89_0 fr st k = opsR gS fi89 [op1 1 (.box 27 (.tmp 0)) 0,
 op1 2 (.alloc 105) 0] fr st (.seq c89_2 k) := evK_rs 0 rfl (by kernel_rfl)
theorem m89 : mini fi89.body = c89_0 := by kernel_rfl
set_option maxHeartbeats 4000000 in
theorem c89 (p : Pred)  (st : St) : EvF gS 89 [p.enc] st = some (.ret ((lowR p).encR) none, st) := by
  refine EvF_start fi89_eq (fun x h => by cases h) m89 ?_
  rw [st89]
  have hm : fi89.marks = [] := rfl
  have hl : fi89.locals = [1, 2] := rfl
  have hr : fi89.results = [.cell 2 105] := rfl
  by_cases h0 : p.test = 6 <;> by_cases h1 : p.test = 7 <;> by_cases h2 : p.test = 8 <;> first | (exfalso; omega) | skip
  all_goals simp [h0, h1, h2, -Int.not_le, -Int.not_lt, -Nat.not_le, -Nat.not_lt, ty3, ty4, ty24, ty27, ty105, eq24, hm, hl, hr, e89_2, e89_0]
  all_goals simp [h0, h1, h2, lowR]
theorem k89 (p_name : List UInt8) (p_test : Int) (p_vk : Int) (p_vn : Int) (p_vx : Nat) (p_vs : List UInt8) (p_vb : Bool) (p_wk : Int) (p_wn : Int) (p_wx : Nat) (p_ws : List UInt8) (p_wb : Bool) (p_set : List Val)  (fr : Fr) (st : St) : callStep gS (EvF gS) 89 [.agg [.str p_name, .int .i64 p_test, .int .i64 p_vk, .int .i64 p_vn, .float .f64 p_vx, .str p_vs, .bool p_vb, .int .i64 p_wk, .int .i64 p_wn, .float .f64 p_wx, .str p_ws, .bool p_wb, .slice (encVals p_set)]] fr st = some (.ok (retE none ((lowR (⟨p_name, p_test, ⟨p_vk, p_vn, p_vx, p_vs, p_vb⟩, ⟨p_wk, p_wn, p_wx, p_ws, p_wb⟩, p_set⟩ : Pred)).encR)) fr st) :=
  call_pure rfl fi89_eq rfl (fun st => c89 (⟨p_name, p_test, ⟨p_vk, p_vn, p_vx, p_vs, p_vb⟩, ⟨p_wk, p_wn, p_wx, p_ws, p_wb⟩, p_set⟩ : Pred)  st) (by simp)
theorem x89 : gS.ext 89 = none := rfl
theorem p89 : fi89.pure = true := rfl
def fi90 : FI := { body := codeOf Try.f90, ntmps := 23, results := [.cell 2 105], pers := [0, 1, 2], locals := [1, 2], pure := true, marks := [] }
theorem fi90_eq : gS.fn 90 = some fi90 := by kernel_rfl
theorem st90 (a0 : V) : startFr fi90 [a0] = { ps := [(0, .val a0), (1, .any), (2, .any)], ts := [], lc := [] } := rfl
def b90 : Code := mini (codeOf Try.f90)
def c90_6 : Code := .seq (codeN b90 37) .ret
def c90_5 : Code := .cond (.tmp 5) c90_6 .skip
def c90_3 : Code := .seq (codeN b90 9) c90_5
def c90_10 : Code := .seq (codeN b90 11) .ret
def c90_2 : Code := .seq c90_3 c90_10
def c90_0 : Code := .seq (codeN b90 2) c90_2
theorem E90 : (evK gS fi90 c90_6 fr st k = opsR gS fi90 [op1 6 (.fieldAddr 27 (.tmp 1) 3) 0,
 ld 7 24 6 24,
 op1 8 (.build 105 #[(0, (.tmp 7)), (1, (.const (.bool true))), (2, (.const (.bool false)))]) 105,
 sto 105 2 8] fr st (.seq .ret k)) ∧
 evK gS fi90 c90_5 fr st k = condK gS fi90 (fr.op (.tmp 5)).bool? c90_6 .skip fr st k ∧
 (evK gS fi90 c90_3 fr st k = opsR gS fi90 [op1 3 (.fieldAddr 27 (.tmp 1) 1) 0,
 ld 4 3 3 3,
 op1 5 (.binOp .eql 3 (.tmp 4) (.const (.int .i64 8)) 3) 4] fr st (.seq c90_5 k)) ∧
 (evK gS fi90 c90_10 fr st k = opsR gS fi90 [op1 9 (.fieldAddr 27 (.tmp 1) 2) 0,
 ld 10 24 9 24,
 op1 11 (.fieldAddr 27 (.tmp 1) 1) 0,
 ld 12 3 11 3,
 op1 13 (.binOp .eql 3 (.tmp 12) (.const (.int .i64 4)) 3) 4,
 mv 14 13 4,
 mk (some 15) (.fieldAddr 27 (.tmp 1) 1) 0 (some (5, false)),
 mk (some 16) (.load 3 (.tmp 15)) 3 (some (5, false)),
 mk (some 17) (.binOp .eql 3 (.tmp 16) (.const (.int .i64 5)) 3) 4 (some (5, false)),
 op1 18 (.pick (.tmp 14) (.const (.bool true)) (.tmp 17)) 4,
 op1 19 (.fieldAddr 27 (.tmp 1) 1) 0,
 ld 20 3 19 3,
 op1 21 (.binOp .eql 3 (.tmp 20) (.const (.int .i64 4)) 3) 4,
 op1 22 (.build 105 #[(0, (.tmp 10)), (1, (.tmp 18)), (2, (.tmp 21))]) 105,
 sto 105 2 22] fr st (.seq .ret k)) ∧
 evK gS fi90 c90_2 fr st k = evK gS fi90 c90_3 fr st (.seq c90_10 k) ∧
 (evK gS fi90 c90_0 fr st k = opsR gS fi90 [op1 1 (.box 27 (.tmp 0)) 0,
 op1 2 (.alloc 105) 0] fr st (.seq c90_2 k)) := ⟨evK_rs 2 rfl (by kernel_rfl), rfl, evK_rs 1 rfl (by kernel_rfl), evK_rs 3 rfl (by kernel_rfl), rfl, evK_rs 0 rfl (by kernel_rfl)⟩
theorem m90 : mini fi90.body = c90_0 := by kernel_rfl
set_option maxHeartbeats 4000000 in
theorem c90 (p : Pred)  (st : St) : EvF gS 90 [p.enc] st = some (.ret ((highR p).encR) none, st) := by
  refine EvF_start fi90_eq (fun x h => by cases h) m90 ?_
  rw [st90]
  have hm : fi90.marks = [] := rfl
  have hl : fi90.locals = [1, 2] := rfl
  have hr : fi90.results = [.cell 2 105] := rfl
  by_cases h0 : p.test = 8 <;> by_cases h1 : p.test = 4 <;> by_cases h2 : p.test = 5 <;> first | (exfalso; omega) | skip
  all_goals simp [h0, h1, h2, -Int.not_le, -Int.not_lt, -Nat.not_le, -Nat.not_lt, ty3, ty4, ty24, ty27, ty105, eq24, hm, hl, hr, E90]
  all_goals simp [h0, h1, h2, highR]
theorem k90 (p_name : List UInt8) (p_test : Int) (p_vk : Int) (p_vn : Int) (p_vx : Nat) (p_vs : List UInt8) (p_vb : Bool) (p_wk : Int) (p_wn : Int) (p_wx : Nat) (p_ws : List UInt8) (p_wb : Bool) (p_set : List Val)  (fr : Fr) (st : St) : callStep gS (EvF gS) 90 [.agg [.str p_name, .int .i64 p_test, .int .i64 p_vk, .int .i64 p_vn, .float .f64 p_vx, .str p_vs, .bool p_vb, .int .i64 p_wk, .int .i64 p_wn, .float .f64 p_wx, .str p_ws, .bool p_wb, .slice (encVals p_set)]] fr st = some (.ok (retE none ((highR (⟨p_name, p_test, ⟨p_vk, p_vn, p_vx, p_vs, p_vb⟩, ⟨p_wk, p_wn, p_wx, p_ws, p_wb⟩, p_set⟩ : Pred)).encR)) fr st) :=
  call_pure rfl fi90_eq rfl (fun st => c90 (⟨p_name, p_test, ⟨p_vk, p_vn, p_vx, p_vs, p_vb⟩, ⟨p_wk, p_wn, p_wx, p_ws, p_wb⟩, p_set⟩ : Pred)  st) (by simp)
theorem x90 : gS.ext 90 = none := rfl
theorem p90 : fi90.pure = true := rfl
def fi87 : FI := { body := codeOf Try.f87, ntmps := 11, results := [.tmp 2], pers := [0, 1, 2], locals := [1], pure := true, marks := [] }
theorem fi87_eq : gS.fn 87 = some fi87 := by kernel_rfl
theorem st87 (a0 : V) : startFr fi87 [a0] = { ps := [(0, .val a0), (1, .any), (2, .any)], ts := [], lc := [] } := rfl
def b87 : Code := mini (codeOf Try.f87)
def c87_2 : Code := .seq (codeN b87 5) .ret
theorem e87_2 : evK gS fi87 c87_2 fr st k = opsR gS fi87 [op1 3 (.fieldAddr 27 (.tmp 1) 1) 0,
 ld 4 3 3 3,
 op1 5 (.binOp .geq 3 (.tmp 4) (.const (.int .i64 4)) 3) 4,
 mv 6 5 4,
 mk (some 7) (.fieldAddr 27 (.tmp 1) 1) 0 (some (3, true)),
 mk (some 8) (.load 3 (.tmp 7)) 3 (some (3, true)),
 mk (some 9) (.binOp .leq 3 (.tmp 8) (.const (.int .i64 8)) 3) 4 (some (3, true)),
 op1 10 (.pick (.tmp 6) (.tmp 9) (.const (.bool false))) 4,
 asn 2 10 4] fr st (.seq .ret k) := evK_rs 1 rfl (by kernel_rfl)
def c87_0 : Code := .seq (codeN b87 2) c87_2
theorem e87_0 : evK gS fi87 c87_0 fr st k = opsR gS fi87 [op1 1 (.box 27 (.tmp 0)) 0,
 op1 2 (.assign (.const (.bool false))) 4] fr st (.seq c87_2 k) := evK_rs 0 rfl (by kernel_rfl)
theorem m87 : mini fi87.body = c87_0 := by kernel_rfl
set_option maxHeartbeats 4000000 in
theorem c87 (p : Pred)  (st : St) : EvF gS 87 [p.enc] st = some (.ret (.bool (endedB p)) none, st) := by
  refine EvF_start fi87_eq (fun x h => by cases h) m87 ?_
  rw [st87]
  have hm : fi87.marks = [] := rfl
  have hl : fi87.locals = [1] := rfl
  have hr : fi87.results = [.tmp 2] := rfl
  simp (config := { contextual := true, maxSteps := 10000000, maxDischargeDepth := 6 }) [-Int.not_le, -Int.not_lt, -Nat.not_le, -Nat.not_lt, ty3, ty4, ty27, hm, hl, hr, e87_2, e87_0]
  all_goals try simp (config := { contextual := true }) [-Int.not_le, -Int.not_lt, -Nat.not_le, -Nat.not_lt, endedB]
  all_goals first | done | grind | omega | (trace_state; fail)
theorem k87 (p_name : List UInt8) (p_test : Int) (p_vk : Int) (p_vn : Int) (p_vx : Nat) (p_vs : List UInt8) (p_vb : Bool) (p_wk : Int) (p_wn : Int) (p_wx : Nat) (p_ws : List UInt8) (p_wb : Bool) (p_set : List Val)  (fr : Fr) (st : St) : callStep gS (EvF gS) 87 [.agg [.str p_name, .int .i64 p_test, .int .i64 p_vk, .int .i64 p_vn, .float .f64 p_vx, .str p_vs, .bool p_vb, .int .i64 p_wk, .int .i64 p_wn, .float .f64 p_wx, .str p_ws, .bool p_wb, .slice (encVals p_set)]] fr st = some (.ok (retE none (.bool (endedB (⟨p_name, p_test, ⟨p_vk, p_vn, p_vx, p_vs, p_vb⟩, ⟨p_wk, p_wn, p_wx, p_ws, p_wb⟩, p_set⟩ : Pred)))) fr st) :=
  call_pure rfl fi87_eq rfl (fun st => c87 (⟨p_name, p_test, ⟨p_vk, p_vn, p_vx, p_vs, p_vb⟩, ⟨p_wk, p_wn, p_wx, p_ws, p_wb⟩, p_set⟩ : Pred)  st) (by simp)
theorem x87 : gS.ext 87 = none := rfl
theorem p87 : fi87.pure = true := rfl
def fi86 : FI := { body := codeOf Try.f86, ntmps := 42, results := [.tmp 6], pers := [0, 1, 2, 3, 4, 6, 7, 8], locals := [3, 4], pure := true, marks := [] }
theorem fi86_eq : gS.fn 86 = some fi86 := by kernel_rfl
theorem st86 (a0 a1 a2 : V) : startFr fi86 [a0, a1, a2] = { ps := [(0, .val a0), (1, .val a1), (2, .val a2), (3, .any), (4, .any), (6, .any), (7, .any), (8, .any)], ts := [], lc := [] } := rfl
def b86 : Code := mini (codeOf Try.f86)
def c86_6 : Code := .seq (codeN b86 37) .ret
def c86_5 : Code := .cond (.tmp 11) c86_6 .skip
def c86_3 : Code := .seq (codeN b86 9) c86_5
def c86_14 : Code := .seq (codeN b86 75) .ret
def c86_13 : Code := .cond (.tmp 14) c86_14 .skip
def c86_11 : Code := .seq (codeN b86 19) c86_13
def c86_20 : Code := .seq (codeN b86 47) .ret
def c86_18 : Code := .seq (codeN b86 23) c86_20
def c86_10 : Code := .seq c86_11 c86_18
def c86_2 : Code := .seq c86_3 c86_10
def c86_0 : Code := .seq (codeN b86 2) c86_2
theorem E86 : evK gS fi86 c86_6 fr st k = opsR gS fi86 [op1 6 (.assign (.const (.bool true))) 4] fr st (.seq .ret k) ∧
 evK gS fi86 c86_5 fr st k = condK gS fi86 (fr.op (.tmp 11)).bool? c86_6 .skip fr st k ∧
 (evK gS fi86 c86_3 fr st k = opsR gS fi86 [op1 9 (.fieldAddr 99 (.tmp 4) 0) 0,
 ld 10 4 9 4,
 op1 11 (.unOp .not 4 (.tmp 10)) 4] fr st (.seq c86_5 k)) ∧
 evK gS fi86 c86_14 fr st k = opsR gS fi86 [op1 6 (.assign (.const (.bool false))) 4] fr st (.seq .ret k) ∧
 evK gS fi86 c86_13 fr st k = condK gS fi86 (fr.op (.tmp 14)).bool? c86_14 .skip fr st k ∧
 (evK gS fi86 c86_11 fr st k = opsR gS fi86 [op1 12 (.fieldAddr 99 (.tmp 3) 0) 0,
 ld 13 4 12 4,
 op1 14 (.unOp .not 4 (.tmp 13)) 4] fr st (.seq c86_13 k)) ∧
 (evK gS fi86 c86_20 fr st k = opsR gS fi86 [mv 23 8 4,
 mv 24 23 4,
 mk (some 25) (.move (.tmp 7)) 3 (some (1, true)),
 mk (some 26) (.move (.tmp 2)) 3 (some (1, true)),
 mk (some 27) (.binOp .eql 3 (.tmp 25) (.tmp 26) 3) 4 (some (1, true)),
 mk (some 28) (.move (.tmp 27)) 4 (some (1, true)),
 mk (some 29) (.move (.tmp 7)) 3 (some (5, false)),
 mk (some 30) (.binOp .eql 3 (.tmp 29) (.const (.int .i64 0)) 3) 4 (some (5, false)),
 mk (some 31) (.move (.tmp 30)) 4 (some (5, false)),
 mk (some 32) (.fieldAddr 99 (.tmp 4) 1) 0 (some (8, true)),
 mk (some 33) (.load 4 (.tmp 32)) 4 (some (8, true)),
 mk (some 34) (.unOp .not 4 (.tmp 33)) 4 (some (8, true)),
 mk (some 35) (.move (.tmp 34)) 4 (some (8, true)),
 mk (some 36) (.fieldAddr 99 (.tmp 3) 1) 0 (some (12, false)),
 mk (some 37) (.load 4 (.tmp 36)) 4 (some (12, false)),
 mk (some 38) (.pick (.tmp 35) (.const (.bool true)) (.tmp 37)) 4 (some (8, true)),
 mk (some 39) (.pick (.tmp 31) (.tmp 38) (.const (.bool false))) 4 (some (5, false)),
 mk (some 40) (.pick (.tmp 28) (.const (.bool true)) (.tmp 39)) 4 (some (1, true)),
 op1 41 (.pick (.tmp 24) (.tmp 40) (.const (.bool false))) 4,
 asn 6 41 4] fr st (.seq .ret k)) ∧
 (evK gS fi86 c86_18 fr st k = opsR gS fi86 [op1 16 (.fieldAddr 99 (.tmp 3) 2) 0,
 ld 17 24 16 24,
 op1 18 (.fieldAddr 99 (.tmp 4) 2) 0,
 ld 19 24 18 24,
 cal 20 75 [(.tmp 17), (.tmp 19)] [24, 24] 94,
 mv 15 20 94,
 op1 21 (.extract (.tmp 15) 0) 3,
 op1 22 (.extract (.tmp 15) 1) 4,
 asn 7 21 3,
 asn 8 22 4] fr st (.seq c86_20 k)) ∧
 evK gS fi86 c86_10 fr st k = evK gS fi86 c86_11 fr st (.seq c86_18 k) ∧
 evK gS fi86 c86_2 fr st k = evK gS fi86 c86_3 fr st (.seq c86_10 k) ∧
 (evK gS fi86 c86_0 fr st k = opsR gS fi86 [op1 3 (.box 99 (.tmp 0)) 0,
 op1 4 (.box 99 (.tmp 1)) 0,
 op1 6 (.assign (.const (.bool false))) 4] fr st (.seq c86_2 k)) := ⟨evK_rs 2 rfl (by kernel_rfl), rfl, evK_rs 1 rfl (by kernel_rfl), evK_rs 4 rfl (by kernel_rfl), rfl, evK_rs 3 rfl (by kernel_rfl), evK_rs 6 rfl (by kernel_rfl), evK_rs 5 rfl (by kernel_rfl), rfl, rfl, evK_rs 0 rfl (by kernel_rfl)⟩
theorem m86 : mini fi86.body = c86_0 := by kernel_rfl
set_option maxHeartbeats 4000000 in
theorem c86 (q : PEnd) (p : PEnd) (t : Int)  (st : St) : EvF gS 86 [q.encP, p.encP, .int .i64 t] st = some (.ret (.bool (within q p t)) none, st) := by
  refine EvF_start fi86_eq (fun x h => by cases h) m86 ?_
  rw [st86]
  have hm : fi86.marks = [] := rfl
  have hl : fi86.locals = [3, 4] := rfl
  have hr : fi86.results = [.tmp 6] := rfl
  simp (config := { contextual := true, maxSteps := 10000000, maxDischargeDepth := 6 }) [-Int.not_le, -Int.not_lt, -Nat.not_le, -Nat.not_lt, ty3, ty4, ty24, ty99, eq24, hm, hl, hr, k75, E86]
  all_goals try simp (config := { contextual := true }) [-Int.not_le, -Int.not_lt, -Nat.not_le, -Nat.not_lt, within]
  all_goals first | done | grind | omega | (trace_state; fail)
theorem k86 (q_is : Bool) (q_op : Bool) (q_k : Int) (q_n : Int) (q_x : Nat) (q_s : List UInt8) (q_b : Bool) (p_is : Bool) (p_op : Bool) (p_k : Int) (p_n : Int) (p_x : Nat) (p_s : List UInt8) (p_b : Bool) (t : Int)  (fr : Fr) (st : St) : callStep gS (EvF gS) 86 [.agg [.bool q_is, .bool q_op, .int .i64 q_k, .int .i64 q_n, .float .f64 q_x, .str q_s, .bool q_b], .agg [.bool p_is, .bool p_op, .int .i64 p_k, .int .i64 p_n, .float .f64 p_x, .str p_s, .bool p_b], .int .i64 t] fr st = some (.ok (retE none (.bool (within (⟨q_is, q_op, ⟨q_k, q_n, q_x, q_s, q_b⟩⟩ : PEnd) (⟨p_is, p_op, ⟨p_k, p_n, p_x, p_s, p_b⟩⟩ : PEnd) t))) fr st) :=
  call_pure rfl fi86_eq rfl (fun st => c86 (⟨q_is, q_op, ⟨q_k, q_n, q_x, q_s, q_b⟩⟩ : PEnd) (⟨p_is, p_op, ⟨p_k, p_n, p_x, p_s, p_b⟩⟩ : PEnd) t  st) (by simp)
def fi88 : FI := { body := codeOf Try.f88, ntmps := 44, results := [.tmp 6], pers := [0, 1, 2, 3, 4, 6, 7, 8], locals := [3, 4], pure := true, marks := [] }
theorem fi88_eq : gS.fn 88 = some fi88 := by kernel_rfl
theorem st88 (a0 a1 a2 : V) : startFr fi88 [a0, a1, a2] = { ps := [(0, .val a0), (1, .val a1), (2, .val a2), (3, .any), (4, .any), (6, .any), (7, .any), (8, .any)], ts := [], lc := [] } := rfl
def b88 : Code := mini (codeOf Try.f88)
def c88_6 : Code := .seq (codeN b88 37) .ret
def c88_5 : Code := .cond (.tmp 11) c88_6 .skip
def c88_3 : Code := .seq (codeN b88 9) c88_5
def c88_12 : Code := .seq (codeN b88 23) .ret
def c88_10 : Code := .seq (codeN b88 11) c88_12
def c88_2 : Code := .seq c88_3 c88_10
def c88_0 : Code := .seq (codeN b88 2) c88_2
theorem E88 : evK gS fi88 c88_6 fr st k = opsR gS fi88 [op1 6 (.assign (.const (.bool true))) 4] fr st (.seq .ret k) ∧
 evK gS fi88 c88_5 fr st k = condK gS fi88 (fr.op (.tmp 11)).bool? c88_6 .skip fr st k ∧
 (evK gS fi88 c88_3 fr st k = opsR gS fi88 [op1 9 (.fieldAddr 105 (.tmp 4) 1) 0,
 ld 10 4 9 4,
 op1 11 (.unOp .not 4 (.tmp 10)) 4] fr st (.seq c88_5 k)) ∧
 (evK gS fi88 c88_12 fr st k = opsR gS fi88 [op1 20 (.fieldAddr 105 (.tmp 3) 1) 0,
 ld 21 4 20 4,
 mv 22 21 4,
 mk (some 23) (.move (.tmp 8)) 4 (some (2, true)),
 op1 24 (.pick (.tmp 22) (.tmp 23) (.const (.bool false))) 4,
 mv 25 24 4,
 mk (some 26) (.move (.tmp 7)) 3 (some (5, true)),
 mk (some 27) (.move (.tmp 2)) 3 (some (5, true)),
 mk (some 28) (.binOp .mul 3 (.tmp 26) (.tmp 27) 3) 3 (some (5, true)),
 mk (some 29) (.binOp .gtr 3 (.tmp 28) (.const (.int .i64 0)) 3) 4 (some (5, true)),
 mk (some 30) (.move (.tmp 29)) 4 (some (5, true)),
 mk (some 31) (.move (.tmp 7)) 3 (some (10, false)),
 mk (some 32) (.binOp .eql 3 (.tmp 31) (.const (.int .i64 0)) 3) 4 (some (10, false)),
 mk (some 33) (.move (.tmp 32)) 4 (some (10, false)),
 mk (some 34) (.fieldAddr 105 (.tmp 4) 2) 0 (some (13, true)),
 mk (some 35) (.load 4 (.tmp 34)) 4 (some (13, true)),
 mk (some 36) (.unOp .not 4 (.tmp 35)) 4 (some (13, true)),
 mk (some 37) (.move (.tmp 36)) 4 (some (13, true)),
 mk (some 38) (.fieldAddr 105 (.tmp 3) 2) 0 (some (17, false)),
 mk (some 39) (.load 4 (.tmp 38)) 4 (some (17, false)),
 mk (some 40) (.pick (.tmp 37) (.const (.bool true)) (.tmp 39)) 4 (some (13, true)),
 mk (some 41) (.pick (.tmp 33) (.tmp 40) (.const (.bool false))) 4 (some (10, false)),
 mk (some 42) (.pick (.tmp 30) (.const (.bool true)) (.tmp 41)) 4 (some (5, true)),
 op1 43 (.pick (.tmp 25) (.tmp 42) (.const (.bool false))) 4,
 asn 6 43 4] fr st (.seq .ret k)) ∧
 (evK gS fi88 c88_10 fr st k = opsR gS fi88 [op1 13 (.fieldAddr 105 (.tmp 3) 0) 0,
 ld 14 24 13 24,
 op1 15 (.fieldAddr 105 (.tmp 4) 0) 0,
 ld 16 24 15 24,
 cal 17 77 [(.tmp 14), (.tmp 16)] [24, 24] 94,
 mv 12 17 94,
 op1 18 (.extract (.tmp 12) 0) 3,
 op1 19 (.extract (.tmp 12) 1) 4,
 asn 7 18 3,
 asn 8 19 4] fr st (.seq c88_12 k)) ∧
 evK gS fi88 c88_2 fr st k = evK gS fi88 c88_3 fr st (.seq c88_10 k) ∧
 (evK gS fi88 c88_0 fr st k = opsR gS fi88 [op1 3 (.box 105 (.tmp 0)) 0,
 op1 4 (.box 105 (.tmp 1)) 0,
 op1 6 (.assign (.const (.bool false))) 4] fr st (.seq c88_2 k)) := ⟨evK_rs 2 rfl (by kernel_rfl), rfl, evK_rs 1 rfl (by kernel_rfl), evK_rs 4 rfl (by kernel_rfl), evK_rs 3 rfl (by kernel_rfl), rfl, evK_rs 0 rfl (by kernel_rfl)⟩
theorem m88 : mini fi88.body = c88_0 := by kernel_rfl
set_option maxHeartbeats 4000000 in
theorem c88 (q : PEnd) (p : PEnd) (t : Int) (ht : t = 1 ∨ t = -1) (st : St) : EvF gS 88 [q.encR, p.encR, .int .i64 t] st = some (.ret (.bool (within q p t)) none, st) := by
  refine EvF_start fi88_eq (fun x h => by cases h) m88 ?_
  rw [st88]
  have hm : fi88.marks = [] := rfl
  have hl : fi88.locals = [3, 4] := rfl
  have hr : fi88.results = [.tmp 6] := rfl
  simp (config := { contextual := true, maxSteps := 10000000, maxDischargeDepth := 6 }) [-Int.not_le, -Int.not_lt, -Nat.not_le, -Nat.not_lt, ty3, ty4, ty24, ty105, eq24, hm, hl, hr, k77, E88]
  all_goals try simp (config := { contextual := true }) [-Int.not_le, -Int.not_lt, -Nat.not_le, -Nat.not_lt, within]
  have w1 : IntKind.wrap .i64 1 = 1 := wrap64 (by omega) (by omega)
  have w0 : IntKind.wrap .i64 0 = 0 := wrap64 (by omega) (by omega)
  have w2 : IntKind.wrap .i64 (-1) = -1 := wrap64 (by omega) (by omega)
  rcases ht with rfl | rfl <;> rcases cmp_tri q.v p.v with e | e | e <;> simp [e, w1, w0, w2] <;> grind
theorem k88 (q_is : Bool) (q_op : Bool) (q_k : Int) (q_n : Int) (q_x : Nat) (q_s : List UInt8) (q_b : Bool) (p_is : Bool) (p_op : Bool) (p_k : Int) (p_n : Int) (p_x : Nat) (p_s : List UInt8) (p_b : Bool) (t : Int) (ht : t = 1 ∨ t = -1) (fr : Fr) (st : St) : callStep gS (EvF gS) 88 [.agg [.int .i64 q_k, .int .i64 q_n, .float .f64 q_x, .str q_s, .bool q_b, .bool q_is, .bool q_op], .agg [.int .i64 p_k, .int .i64 p_n, .float .f64 p_x, .str p_s, .bool p_b, .bool p_is, .bool p_op], .int .i64 t] fr st = some (.ok (retE none (.bool (within (⟨q_is, q_op, ⟨q_k, q_n, q_x, q_s, q_b⟩⟩ : PEnd) (⟨p_is, p_op, ⟨p_k, p_n, p_x, p_s, p_b⟩⟩ : PEnd) t))) fr st) :=
  call_pure rfl fi88_eq rfl (fun st => c88 (⟨q_is, q_op, ⟨q_k, q_n, q_x, q_s, q_b⟩⟩ : PEnd) (⟨p_is, p_op, ⟨p_k, p_n, p_x, p_s, p_b⟩⟩ : PEnd) t ht st) (by simp)
theorem x88 : gS.ext 88 = none := rfl
theorem p88 : fi88.pure = true := rfl
end
end Go.Proofs.Ytclpbfkbpcjejaa
namespace Go.Proofs.Ytclpbfkbpcjejaa
open Go Go.Ab
set_option linter.unusedVariables false
set_option linter.unusedSimpArgs false
set_option linter.unnecessarySimpa false
set_option maxRecDepth 20000
noncomputable section
variable (fr : Fr) (st : St) (k : Kt)
def fi27 : FI := { body := codeOf Try.f27, ntmps := 141, results := [.tmp 4], pers := [0, 1, 2, 3, 4, 6, 7, 8, 9, 10, 11, 12, 47, 57, 58, 59, 117], locals := [2, 3, 6, 7, 8, 9, 10], pure := true, marks := [] }
theorem fi27_eq : gS.fn 27 = some fi27 := by kernel_rfl
theorem st27 (a0 a1 : V) : startFr fi27 [a0, a1] = { ps := [(0, .val a0), (1, .val a1), (2, .any), (3, .any), (4, .any), (6, .any), (7, .any), (8, .any), (9, .any), (10, .any), (11, .any), (12, .any), (47, .any), (57, .any), (58, .any), (59, .any), (117, .any)], ts := [], lc := [] } := rfl
def b27 : Code := mini (codeOf Try.f27)
def c27_6 : Code := .seq (codeN b27 37) .ret
def c27_5 : Code := .cond (.tmp 20) c27_6 .skip
def c27_3 : Code := .seq (codeN b27 9) c27_5
def c27_14 : Code := .seq (codeN b27 75) .ret
def c27_13 : Code := .cond (.tmp 27) c27_14 .skip
def c27_11 : Code := .seq (codeN b27 19) c27_13
def c27_22 : Code := .seq (codeN b27 151) .ret
def c27_21 : Code := .cond (.tmp 37) c27_22 .skip
def c27_19 : Code := .seq (codeN b27 39) c27_21
def c27_30 : Code := .seq (codeN b27 303) .ret
def c27_29 : Code := .cond (.tmp 40) c27_30 .skip
def c27_27 : Code := .seq (codeN b27 79) c27_29
def c27_41 : Code := .seq (codeN b27 2399) .ret
def c27_65 : Code := .seq (codeN b27 20129631) .ret
def c27_64 : Code := .cond (.tmp 71) c27_65 .skip
def c27_62 : Code := .seq (codeN b27 5449567) c27_64
def c27_60 : Code := .seq (codeN b27 2303839) c27_62
def c27_69 : Code := codeN b27 993119
def c27_58 : Code := .seq (.block 2 c27_60) c27_69
def c27_54 : Code := .seq (.cond (.tmp 60) .skip (.exit 1)) c27_58
def c27_52 : Code := .seq (codeN b27 141151) c27_54
def c27_51 : Code := .loop c27_52
def c27_50 : Code := .block 1 c27_51
def c27_48 : Code := .seq (codeN b27 18271) c27_50
def c27_70 : Code := .seq (codeN b27 22367) .ret
def c27_47 : Code := .seq c27_48 c27_70
def c27_46 : Code := .cond (.tmp 54) c27_47 .skip
def c27_44 : Code := .seq (codeN b27 2911) c27_46
def c27_40 : Code := .cond (.tmp 48) c27_41 c27_44
def c27_38 : Code := .seq (codeN b27 607) c27_40
def c27_37 : Code := .block 0 c27_38
def c27_35 : Code := .seq (codeN b27 159) c27_37
def c27_82 : Code := .seq (codeN b27 4863) .ret
def c27_81 : Code := .cond (.tmp 96) c27_82 .skip
def c27_79 : Code := .seq (codeN b27 1279) c27_81
def c27_90 : Code := .seq (codeN b27 9727) .ret
def c27_89 : Code := .cond (.tmp 107) c27_90 .skip
def c27_87 : Code := .seq (codeN b27 2559) c27_89
def c27_103 : Code := .seq (codeN b27 153599) .ret
def c27_109 : Code := .seq (codeN b27 645119) .ret
def c27_115 : Code := .seq (codeN b27 2611199) .ret
def c27_114 : Code := .cond (.tmp 134) c27_115 .skip
def c27_112 : Code := .seq (codeN b27 776191) c27_114
def c27_108 : Code := .cond (.tmp 127) c27_109 c27_112
def c27_106 : Code := .seq (codeN b27 186367) c27_108
def c27_102 : Code := .cond (.tmp 118) c27_103 c27_106
def c27_100 : Code := .seq (codeN b27 38911) c27_102
def c27_99 : Code := .block 3 c27_100
def c27_97 : Code := .seq (codeN b27 10239) c27_99
def c27_119 : Code := .seq (codeN b27 12287) .ret
def c27_96 : Code := .seq c27_97 c27_119
def c27_94 : Code := .seq (codeN b27 3071) c27_96
def c27_86 : Code := .seq c27_87 c27_94
def c27_78 : Code := .seq c27_79 c27_86
def c27_76 : Code := .seq (codeN b27 383) c27_78
def c27_74 : Code := .seq (codeN b27 191) c27_76
def c27_34 : Code := .seq c27_35 c27_74
def c27_26 : Code := .seq c27_27 c27_34
def c27_18 : Code := .seq c27_19 c27_26
def c27_10 : Code := .seq c27_11 c27_18
def c27_2 : Code := .seq c27_3 c27_10
def c27_0 : Code := .seq (codeN b27 2) c27_2
theorem E27 : evK gS fi27 c27_6 fr st k = opsR gS fi27 [op1 4 (.assign (.const (.bool false))) 4] fr st (.seq .ret k) ∧
 evK gS fi27 c27_5 fr st k = condK gS fi27 (fr.op (.tmp 20)).bool? c27_6 .skip fr st k ∧
 (evK gS fi27 c27_3 fr st k = opsR gS fi27 [ld 13 27 2 27,
 cal 14 19 [(.tmp 13)] [27] 4,
 op1 15 (.unOp .not 4 (.tmp 14)) 4,
 mv 16 15 4,
 mk (some 17) (.load 27 (.tmp 3)) 27 (some (3, false)),
 mk (some 18) (.call { callee := (.value (.func 19)), args := #[(.tmp 17)], argTypes := #[27] }) 4 (some (3, false)),
 mk (some 19) (.unOp .not 4 (.tmp 18)) 4 (some (3, false)),
 op1 20 (.pick (.tmp 16) (.const (.bool true)) (.tmp 19)) 4] fr st (.seq c27_5 k)) ∧
 evK gS fi27 c27_14 fr st k = opsR gS fi27 [op1 4 (.assign (.const (.bool true))) 4] fr st (.seq .ret k) ∧
 evK gS fi27 c27_13 fr st k = condK gS fi27 (fr.op (.tmp 27)).bool? c27_14 .skip fr st k ∧
 (evK gS fi27 c27_11 fr st k = opsR gS fi27 [ld 21 27 2 27,
 cal 22 23 [(.tmp 21)] [27] 4,
 mv 23 22 4,
 mk (some 24) (.fieldAddr 27 (.tmp 3) 1) 0 (some (2, false)),
 mk (some 25) (.load 3 (.tmp 24)) 3 (some (2, false)),
 mk (some 26) (.binOp .eql 3 (.tmp 25) (.const (.int .i64 1)) 3) 4 (some (2, false)),
 op1 27 (.pick (.tmp 23) (.const (.bool true)) (.tmp 26)) 4] fr st (.seq c27_13 k)) ∧
 evK gS fi27 c27_22 fr st k = opsR gS fi27 [op1 4 (.assign (.const (.bool true))) 4] fr st (.seq .ret k) ∧
 evK gS fi27 c27_21 fr st k = condK gS fi27 (fr.op (.tmp 37)).bool? c27_22 .skip fr st k ∧
 (evK gS fi27 c27_19 fr st k = opsR gS fi27 [op1 28 (.fieldAddr 27 (.tmp 2) 1) 0,
 ld 29 3 28 3,
 op1 30 (.fieldAddr 27 (.tmp 3) 1) 0,
 ld 31 3 30 3,
 bop 32 .eql 3 29 31 3 4,
 mv 33 32 4,
 mk (some 34) (.load 27 (.tmp 2)) 27 (some (5, true)),
 mk (some 35) (.load 27 (.tmp 3)) 27 (some (5, true)),
 mk (some 36) (.call { callee := (.value (.func 84)), args := #[(.tmp 34), (.tmp 35)], argTypes := #[27, 27] }) 4 (some (5, true)),
 op1 37 (.pick (.tmp 33) (.tmp 36) (.const (.bool false))) 4] fr st (.seq c27_21 k)) ∧
 (evK gS fi27 c27_30 fr st k = opsR gS fi27 [ld 41 27 2 27,
 op1 42 (.fieldAddr 27 (.tmp 3) 2) 0,
 ld 43 24 42 24,
 cal 44 21 [(.tmp 41), (.tmp 43)] [27, 24] 4,
 op1 45 (.unOp .not 4 (.tmp 44)) 4,
 asn 4 45 4] fr st (.seq .ret k)) ∧
 evK gS fi27 c27_29 fr st k = condK gS fi27 (fr.op (.tmp 40)).bool? c27_30 .skip fr st k ∧
 (evK gS fi27 c27_27 fr st k = opsR gS fi27 [op1 38 (.fieldAddr 27 (.tmp 3) 1) 0,
 ld 39 3 38 3,
 op1 40 (.binOp .eql 3 (.tmp 39) (.const (.int .i64 3)) 3) 4] fr st (.seq c27_29 k)) ∧
 (evK gS fi27 c27_41 fr st k = opsR gS fi27 [ld 50 27 3 27,
 op1 51 (.fieldAddr 27 (.tmp 2) 2) 0,
 ld 52 24 51 24,
 cal 53 21 [(.tmp 50), (.tmp 52)] [27, 24] 4,
 asn 4 53 4] fr st (.seq .ret k)) ∧
 evK gS fi27 c27_65 fr st k = opsR gS fi27 [op1 4 (.assign (.const (.bool false))) 4] fr st (.seq .ret k) ∧
 evK gS fi27 c27_64 fr st k = condK gS fi27 (fr.op (.tmp 71)).bool? c27_65 .skip fr st k ∧
 (evK gS fi27 c27_62 fr st k = opsR gS fi27 [ld 63 24 6 24,
 cal 64 80 [(.tmp 63)] [24] 4,
 op1 65 (.unOp .not 4 (.tmp 64)) 4,
 mv 66 65 4,
 mk (some 67) (.load 27 (.tmp 3)) 27 (some (3, true)),
 mk (some 68) (.load 24 (.tmp 6)) 24 (some (3, true)),
 mk (some 69) (.call { callee := (.value (.func 21)), args := #[(.tmp 67), (.tmp 68)], argTypes := #[27, 24] }) 4 (some (3, true)),
 mk (some 70) (.unOp .not 4 (.tmp 69)) 4 (some (3, true)),
 op1 71 (.pick (.tmp 66) (.tmp 70) (.const (.bool false))) 4] fr st (.seq c27_64 k)) ∧
 (evK gS fi27 c27_60 fr st k = opsR gS fi27 [ixa 61 25 57 59 0,
 ld 62 24 61 24,
 op1 6 (.alloc 24) 0,
 sto 24 6 62] fr st (.seq c27_62 k)) ∧
 (evK gS fi27 c27_69 fr st k = opsR gS fi27 [op1 72 (.binOp .add 3 (.tmp 59) (.const (.int .i64 1)) 3) 3,
 mv 59 72 3] fr st k) ∧
 evK gS fi27 c27_58 fr st k = evK gS fi27 c27_60 fr st (.blk 2 (.seq c27_69 k)) ∧
 evK gS fi27 c27_54 fr st k = condK gS fi27 (fr.op (.tmp 60)).bool? .skip (.exit 1) fr st (.seq c27_58 k) ∧
 evK gS fi27 c27_52 fr st k = opsR gS fi27 [bop 60 .lss 3 59 58 3 0] fr st (.seq c27_54 k) ∧
 evK gS fi27 c27_50 fr st k = evK gS fi27 c27_51 fr st (.blk 1 k) ∧
 (evK gS fi27 c27_48 fr st k = opsR gS fi27 [op1 56 (.fieldAddr 27 (.tmp 2) 4) 0,
 ld 57 25 56 25,
 len1 58 57 25 3,
 op1 59 (.move (.const (.int .i64 0))) 3] fr st (.seq c27_50 k)) ∧
 evK gS fi27 c27_70 fr st k = opsR gS fi27 [op1 4 (.assign (.const (.bool true))) 4] fr st (.seq .ret k) ∧
 evK gS fi27 c27_47 fr st k = evK gS fi27 c27_48 fr st (.seq c27_70 k) ∧
 evK gS fi27 c27_46 fr st k = condK gS fi27 (fr.op (.tmp 54)).bool? c27_47 .skip fr st k ∧
 (evK gS fi27 c27_44 fr st k = opsR gS fi27 [op1 55 (.binOp .eql 3 (.tmp 47) (.const (.int .i64 10)) 3) 4,
 asn 54 55 4] fr st (.seq c27_46 k)) ∧
 evK gS fi27 c27_40 fr st k = condK gS fi27 (fr.op (.tmp 48)).bool? c27_41 c27_44 fr st k ∧
 (evK gS fi27 c27_38 fr st k = opsR gS fi27 [op1 49 (.binOp .eql 3 (.tmp 47) (.const (.int .i64 2)) 3) 4,
 asn 48 49 4] fr st (.seq c27_40 k)) ∧
 evK gS fi27 c27_37 fr st k = evK gS fi27 c27_38 fr st (.blk 0 k) ∧
 (evK gS fi27 c27_35 fr st k = opsR gS fi27 [op1 46 (.fieldAddr 27 (.tmp 2) 1) 0,
 ld 47 3 46 3] fr st (.seq c27_37 k)) ∧
 (evK gS fi27 c27_82 fr st k = opsR gS fi27 [ld 97 99 7 99,
 ld 98 99 9 99,
 cal 99 86 [(.tmp 97), (.tmp 98), (.const (.int .i64 1))] [99, 99, 3] 4,
 mv 100 99 4,
 mk (some 101) (.load 99 (.tmp 8)) 99 (some (3, true)),
 mk (some 102) (.load 99 (.tmp 10)) 99 (some (3, true)),
 mk (some 103) (.call { callee := (.value (.func 86)), args := #[(.tmp 101), (.tmp 102), (.const (.int .i64 (-1)))], argTypes := #[99, 99, 3] }) 4 (some (3, true)),
 op1 104 (.pick (.tmp 100) (.tmp 103) (.const (.bool false))) 4,
 asn 4 104 4] fr st (.seq .ret k)) ∧
 evK gS fi27 c27_81 fr st k = condK gS fi27 (fr.op (.tmp 96)).bool? c27_82 .skip fr st k ∧
 (evK gS fi27 c27_79 fr st k = opsR gS fi27 [op1 83 (.fieldAddr 99 (.tmp 7) 0) 0,
 ld 84 4 83 4,
 mv 85 84 4,
 mk (some 86) (.fieldAddr 99 (.tmp 8) 0) 0 (some (2, false)),
 mk (some 87) (.load 4 (.tmp 86)) 4 (some (2, false)),
 op1 88 (.pick (.tmp 85) (.const (.bool true)) (.tmp 87)) 4,
 mv 89 88 4,
 mk (some 90) (.fieldAddr 99 (.tmp 9) 0) 0 (some (6, true)),
 mk (some 91) (.load 4 (.tmp 90)) 4 (some (6, true)),
 mk (some 92) (.move (.tmp 91)) 4 (some (6, true)),
 mk (some 93) (.fieldAddr 99 (.tmp 10) 0) 0 (some (9, false)),
 mk (some 94) (.load 4 (.tmp 93)) 4 (some (9, false)),
 mk (some 95) (.pick (.tmp 92) (.const (.bool true)) (.tmp 94)) 4 (some (6, true)),
 op1 96 (.pick (.tmp 89) (.tmp 95) (.const (.bool false))) 4] fr st (.seq c27_81 k)) ∧
 evK gS fi27 c27_90 fr st k = opsR gS fi27 [op1 4 (.assign (.const (.bool false))) 4] fr st (.seq .ret k) ∧
 evK gS fi27 c27_89 fr st k = condK gS fi27 (fr.op (.tmp 107)).bool? c27_90 .skip fr st k ∧
 (evK gS fi27 c27_87 fr st k = opsR gS fi27 [op1 105 (.fieldAddr 27 (.tmp 2) 1) 0,
 ld 106 3 105 3,
 op1 107 (.binOp .neq 3 (.tmp 106) (.const (.int .i64 9)) 3) 4] fr st (.seq c27_89 k)) ∧
 (evK gS fi27 c27_103 fr st k = opsR gS fi27 [op1 120 (.fieldAddr 27 (.tmp 2) 2) 0,
 op1 121 (.fieldAddr 24 (.tmp 120) 3) 0,
 ld 122 9 121 9,
 op1 123 (.fieldAddr 27 (.tmp 3) 2) 0,
 op1 124 (.fieldAddr 24 (.tmp 123) 3) 0,
 ld 125 9 124 9,
 cal 126 76 [(.tmp 122), (.tmp 125)] [9, 9] 4,
 asn 4 126 4] fr st (.seq .ret k)) ∧
 (evK gS fi27 c27_109 fr st k = opsR gS fi27 [mv 129 12 4,
 mv 130 129 4,
 mk (some 131) (.move (.tmp 11)) 3 (some (1, true)),
 mk (some 132) (.binOp .geq 3 (.tmp 131) (.const (.int .i64 0)) 3) 4 (some (1, true)),
 op1 133 (.pick (.tmp 130) (.tmp 132) (.const (.bool false))) 4,
 asn 4 133 4] fr st (.seq .ret k)) ∧
 (evK gS fi27 c27_115 fr st k = opsR gS fi27 [mv 136 12 4,
 mv 137 136 4,
 mk (some 138) (.move (.tmp 11)) 3 (some (1, true)),
 mk (some 139) (.binOp .gtr 3 (.tmp 138) (.const (.int .i64 0)) 3) 4 (some (1, true)),
 op1 140 (.pick (.tmp 137) (.tmp 139) (.const (.bool false))) 4,
 asn 4 140 4] fr st (.seq .ret k)) ∧
 evK gS fi27 c27_114 fr st k = condK gS fi27 (fr.op (.tmp 134)).bool? c27_115 .skip fr st k ∧
 (evK gS fi27 c27_112 fr st k = opsR gS fi27 [op1 135 (.binOp .eql 3 (.tmp 117) (.const (.int .i64 6)) 3) 4,
 asn 134 135 4] fr st (.seq c27_114 k)) ∧
 evK gS fi27 c27_108 fr st k = condK gS fi27 (fr.op (.tmp 127)).bool? c27_109 c27_112 fr st k ∧
 (evK gS fi27 c27_106 fr st k = opsR gS fi27 [op1 128 (.binOp .eql 3 (.tmp 117) (.const (.int .i64 7)) 3) 4,
 asn 127 128 4] fr st (.seq c27_108 k)) ∧
 evK gS fi27 c27_102 fr st k = condK gS fi27 (fr.op (.tmp 118)).bool? c27_103 c27_106 fr st k ∧
 (evK gS fi27 c27_100 fr st k = opsR gS fi27 [op1 119 (.binOp .eql 3 (.tmp 117) (.const (.int .i64 9)) 3) 4,
 asn 118 119 4] fr st (.seq c27_102 k)) ∧
 evK gS fi27 c27_99 fr st k = evK gS fi27 c27_100 fr st (.blk 3 k) ∧
 (evK gS fi27 c27_97 fr st k = opsR gS fi27 [op1 116 (.fieldAddr 27 (.tmp 3) 1) 0,
 ld 117 3 116 3] fr st (.seq c27_99 k)) ∧
 evK gS fi27 c27_119 fr st k = opsR gS fi27 [op1 4 (.assign (.const (.bool false))) 4] fr st (.seq .ret k) ∧
 evK gS fi27 c27_96 fr st k = evK gS fi27 c27_97 fr st (.seq c27_119 k) ∧
 (evK gS fi27 c27_94 fr st k = opsR gS fi27 [op1 109 (.fieldAddr 27 (.tmp 2) 2) 0,
 ld 110 24 109 24,
 op1 111 (.fieldAddr 27 (.tmp 3) 2) 0,
 ld 112 24 111 24,
 cal 113 75 [(.tmp 110), (.tmp 112)] [24, 24] 94,
 mv 108 113 94,
 op1 114 (.extract (.tmp 108) 0) 3,
 op1 115 (.extract (.tmp 108) 1) 4,
 asn 11 114 3,
 asn 12 115 4] fr st (.seq c27_96 k)) ∧
 evK gS fi27 c27_86 fr st k = evK gS fi27 c27_87 fr st (.seq c27_94 k) ∧
 evK gS fi27 c27_78 fr st k = evK gS fi27 c27_79 fr st (.seq c27_86 k) ∧
 (evK gS fi27 c27_76 fr st k = opsR gS fi27 [ld 79 27 3 27,
 cal 80 85 [(.tmp 79)] [27] 100,
 mv 78 80 100,
 op1 81 (.extract (.tmp 78) 0) 99,
 op1 82 (.extract (.tmp 78) 1) 99,
 op1 9 (.alloc 99) 0,
 op1 10 (.alloc 99) 0,
 sto 99 9 81,
 sto 99 10 82] fr st (.seq c27_78 k)) ∧
 (evK gS fi27 c27_74 fr st k = opsR gS fi27 [ld 74 27 2 27,
 cal 75 85 [(.tmp 74)] [27] 100,
 mv 73 75 100,
 op1 76 (.extract (.tmp 73) 0) 99,
 op1 77 (.extract (.tmp 73) 1) 99,
 op1 7 (.alloc 99) 0,
 op1 8 (.alloc 99) 0,
 sto 99 7 76,
 sto 99 8 77] fr st (.seq c27_76 k)) ∧
 evK gS fi27 c27_34 fr st k = evK gS fi27 c27_35 fr st (.seq c27_74 k) ∧
 evK gS fi27 c27_26 fr st k = evK gS fi27 c27_27 fr st (.seq c27_34 k) ∧
 evK gS fi27 c27_18 fr st k = evK gS fi27 c27_19 fr st (.seq c27_26 k) ∧
 evK gS fi27 c27_10 fr st k = evK gS fi27 c27_11 fr st (.seq c27_18 k) ∧
 evK gS fi27 c27_2 fr st k = evK gS fi27 c27_3 fr st (.seq c27_10 k) ∧
 (evK gS fi27 c27_0 fr st k = opsR gS fi27 [op1 2 (.box 27 (.tmp 0)) 0,
 op1 3 (.box 27 (.tmp 1)) 0,
 op1 4 (.assign (.const (.bool false))) 4] fr st (.seq c27_2 k)) := ⟨evK_rs 2 rfl (by kernel_rfl), rfl, evK_rs 1 rfl (by kernel_rfl), evK_rs 4 rfl (by kernel_rfl), rfl, evK_rs 3 rfl (by kernel_rfl), evK_rs 6 rfl (by kernel_rfl), rfl, evK_rs 5 rfl (by kernel_rfl), evK_rs 8 rfl (by kernel_rfl), rfl, evK_rs 7 rfl (by kernel_rfl), evK_rs 11 rfl (by kernel_rfl), evK_rs 17 rfl (by kernel_rfl), rfl, evK_rs 16 rfl (by kernel_rfl), evK_rs 15 rfl (by kernel_rfl), evK_r 18 (by kernel_rfl), rfl, rfl, evK_rs 14 rfl (by kernel_rfl), rfl, evK_rs 13 rfl (by kernel_rfl), evK_rs 19 rfl (by kernel_rfl), rfl, rfl, evK_rs 12 rfl (by kernel_rfl), rfl, evK_rs 10 rfl (by kernel_rfl), rfl, evK_rs 9 rfl (by kernel_rfl), evK_rs 23 rfl (by kernel_rfl), rfl, evK_rs 22 rfl (by kernel_rfl), evK_rs 25 rfl (by kernel_rfl), rfl, evK_rs 24 rfl (by kernel_rfl), evK_rs 29 rfl (by kernel_rfl), evK_rs 31 rfl (by kernel_rfl), evK_rs 33 rfl (by kernel_rfl), rfl, evK_rs 32 rfl (by kernel_rfl), rfl, evK_rs 30 rfl (by kernel_rfl), rfl, evK_rs 28 rfl (by kernel_rfl), rfl, evK_rs 27 rfl (by kernel_rfl), evK_rs 34 rfl (by kernel_rfl), rfl, evK_rs 26 rfl (by kernel_rfl), rfl, rfl, evK_rs 21 rfl (by kernel_rfl), evK_rs 20 rfl (by kernel_rfl), rfl, rfl, rfl, rfl, rfl, evK_rs 0 rfl (by kernel_rfl)⟩
theorem m27 : mini fi27.body = c27_0 := by kernel_rfl
theorem n27_51 (fr : Fr) (st : St) (k : Kt) : nextK gS fi27 (.loop c27_52 k) .normal fr st = evK gS fi27 c27_51 fr st k := rfl
set_option maxHeartbeats 4000000 in
theorem L27_51 (q : Pred) (p : Pred) (h_q : q.ok) (h_p : p.ok) (st : St) : ∀ (n i : Nat) (j : Int)  (e0 e1 e2 e4 e6 e7 e8 e9 e10 e11 e12 e47 e117 : E) (T : List (Nat × E)) (X : List (Nat × List V)) (ht0 : e0.Tame) (ht1 : e1.Tame) (ht2 : e2.Tame) (ht4 : e4.Tame) (ht6 : e6.Tame) (ht7 : e7.Tame) (ht8 : e8.Tame) (ht9 : e9.Tame) (ht10 : e10.Tame) (ht11 : e11.Tame) (ht12 : e12.Tame) (ht47 : e47.Tame) (ht117 : e117.Tame) (hx3 : lk X 3 = some [.str p.name, .int .i64 p.test, .int .i64 p.v.kind, .int .i64 p.v.n, .float .f64 p.v.x, .str p.v.s, .bool p.v.b, .int .i64 p.w.kind, .int .i64 p.w.n, .float .f64 p.w.x, .str p.w.s, .bool p.w.b, .slice (encVals p.set)]) , j = (i : Int) → i ≤ (q.set).length → (q.set).length - i = n →
    evK gS fi27 c27_51 { ps := [(0, e0), (1, e1), (2, e2), (3, .lp 3 0), (4, e4), (6, e6), (7, e7), (8, e8), (9, e9), (10, e10), (11, e11), (12, e12), (47, e47), (57, .val (.slice (encVals q.set))), (58, .val (.int .i64 q.set.length)), (59, .val (.int .i64 j)), (117, e117)], ts := T, lc := X } st (.blk 1 (.seq c27_70 (.blk 0 (.seq c27_74 .nil)))) = some ((.ret (.bool ((q.set.drop i).all (fun v => vnan v || ptakes p v))) none), st) := by
  intro n
  have hm : fi27.marks = [] := rfl
  have hl : fi27.locals = [2, 3, 6, 7, 8, 9, 10] := rfl
  have hr : fi27.results = [.tmp 4] := rfl
  have hpo := h_q.2
  induction n with
  | zero =>
    intro i j  e0 e1 e2 e4 e6 e7 e8 e9 e10 e11 e12 e47 e117 T X ht0 ht1 ht2 ht4 ht6 ht7 ht8 ht9 ht10 ht11 ht12 ht47 ht117 hx3  hj hi hn
    obtain rfl : i = (q.set).length := by omega
    subst hj
    refine evK_loop c27_52 _ st _ _ rfl ?_
    simp (config := { contextual := true, maxSteps := 10000000, maxDischargeDepth := 6 }) [-Int.not_le, -Int.not_lt, -Nat.not_le, -Nat.not_lt, ty3, ty4, ty9, ty24, ty25, ty27, ty99, eq24, hm, hl, hr, k19, k21, k23, k75, k76, k80, k84, k85, k86, E27, n27_51, h_q.1, h_q.2, h_p.1, h_p.2, ht0, ht1, ht2, ht4, ht6, ht7, ht8, ht9, ht10, ht11, ht12, ht47, ht117, hx3]
    all_goals first | done | grind | omega | (trace_state; fail)
  | succ n ih =>
    intro i j  e0 e1 e2 e4 e6 e7 e8 e9 e10 e11 e12 e47 e117 T X ht0 ht1 ht2 ht4 ht6 ht7 ht8 ht9 ht10 ht11 ht12 ht47 ht117 hx3  hj hi hn
    subst hj
    obtain ⟨x, hx⟩ : ∃ x, (q.set)[i]? = some x := ⟨(q.set)[i]'(by omega), List.getElem?_eq_getElem (by omega)⟩
    have hd := drop_get hx
    have hlt : (i : Int) < ((q.set).length : Int) := by omega
    have hlt2 : i < (q.set).length := by omega
    have hxe : (q.set)[i]'hlt2 = x := by rw [List.getElem?_eq_getElem hlt2] at hx; exact Option.some.inj hx
    have hw : IntKind.wrap .i64 ((i : Int) + 1) = (i : Int) + 1 := wrap64 (by omega) (by omega)
    have IH := fun e0 e1 e2 e4 e6 e7 e8 e9 e10 e11 e12 e47 e117 T X ht0 ht1 ht2 ht4 ht6 ht7 ht8 ht9 ht10 ht11 ht12 ht47 ht117 hx3 => ih (i + 1) ((i : Int) + 1) e0 e1 e2 e4 e6 e7 e8 e9 e10 e11 e12 e47 e117 T X ht0 ht1 ht2 ht4 ht6 ht7 ht8 ht9 ht10 ht11 ht12 ht47 ht117 hx3 rfl (by omega) (by omega)
    refine evK_loop c27_52 _ st _ _ rfl ?_
    simp (config := { contextual := true, maxSteps := 10000000, maxDischargeDepth := 6 }) [-Int.not_le, -Int.not_lt, -Nat.not_le, -Nat.not_lt, ty3, ty4, ty9, ty24, ty25, ty27, ty99, eq24, hm, hl, hr, k19, k21, k23, k75, k76, k80, k84, k85, k86, E27, n27_51, h_q.1, h_q.2, h_p.1, h_p.2, ht0, ht1, ht2, ht4, ht6, ht7, ht8, ht9, ht10, ht11, ht12, ht47, ht117, hx3, hx, hxe, hd, hlt, hlt2, hw, IH]
    all_goals first | done | grind | omega | (trace_state; fail)
set_option maxHeartbeats 4000000 in
theorem c27 (q : Pred) (p : Pred)  (h_q : Pred.ok q) (h_p : Pred.ok p) (st : St) : EvF gS 27 [q.enc, p.enc] st = some (.ret (.bool (pimplies q p)) none, st) := by
  refine EvF_start fi27_eq (fun x h => by cases h) m27 ?_
  rw [st27]
  have hm : fi27.marks = [] := rfl
  have hl : fi27.locals = [2, 3, 6, 7, 8, 9, 10] := rfl
  have hr : fi27.results = [.tmp 4] := rfl
  simp (config := { contextual := true, maxSteps := 10000000, maxDischargeDepth := 6 }) [-Int.not_le, -Int.not_lt, -Nat.not_le, -Nat.not_lt, ty3, ty4, ty9, ty24, ty25, ty27, ty99, eq24, hm, hl, hr, k19, k21, k23, k75, k76, k80, k84, k85, k86, E27, n27_51, -ib_eql, -ib_neq, ib_eqlO, ib_neqO, (fun e0 e1 e2 e4 e6 e7 e8 e9 e10 e11 e12 e47 e117 T X ht0 ht1 ht2 ht4 ht6 ht7 ht8 ht9 ht10 ht11 ht12 ht47 ht117 hx3 => L27_51 q p h_q h_p st _ 0 0  e0 e1 e2 e4 e6 e7 e8 e9 e10 e11 e12 e47 e117 T X ht0 ht1 ht2 ht4 ht6 ht7 ht8 ht9 ht10 ht11 ht12 ht47 ht117 hx3 rfl (Nat.zero_le _) rfl), h_q.1, h_q.2, h_p.1, h_p.2]
  all_goals try simp (config := { contextual := true }) [-Int.not_le, -Int.not_lt, -Nat.not_le, -Nat.not_lt, ieq, pimplies, within]
  all_goals (generalize sames q.set p.set = b3; generalize vsame q.v p.v = b1; generalize vsame q.w p.w = b2; generalize ptakes q p.v = b4; generalize ptakes p q.v = b5)
  all_goals (cases b1 <;> cases b2 <;> cases b3 <;> simp (config := { contextual := true }) <;> grind)
theorem k27 (q_name : List UInt8) (q_test : Int) (q_vk : Int) (q_vn : Int) (q_vx : Nat) (q_vs : List UInt8) (q_vb : Bool) (q_wk : Int) (q_wn : Int) (q_wx : Nat) (q_ws : List UInt8) (q_wb : Bool) (q_set : List Val) (p_name : List UInt8) (p_test : Int) (p_vk : Int) (p_vn : Int) (p_vx : Nat) (p_vs : List UInt8) (p_vb : Bool) (p_wk : Int) (p_wn : Int) (p_wx : Nat) (p_ws : List UInt8) (p_wb : Bool) (p_set : List Val)  (h_q : Pred.ok (⟨q_name, q_test, ⟨q_vk, q_vn, q_vx, q_vs, q_vb⟩, ⟨q_wk, q_wn, q_wx, q_ws, q_wb⟩, q_set⟩ : Pred)) (h_p : Pred.ok (⟨p_name, p_test, ⟨p_vk, p_vn, p_vx, p_vs, p_vb⟩, ⟨p_wk, p_wn, p_wx, p_ws, p_wb⟩, p_set⟩ : Pred)) (fr : Fr) (st : St) : callStep gS (EvF gS) 27 [.agg [.str q_name, .int .i64 q_test, .int .i64 q_vk, .int .i64 q_vn, .float .f64 q_vx, .str q_vs, .bool q_vb, .int .i64 q_wk, .int .i64 q_wn, .float .f64 q_wx, .str q_ws, .bool q_wb, .slice (encVals q_set)], .agg [.str p_name, .int .i64 p_test, .int .i64 p_vk, .int .i64 p_vn, .float .f64 p_vx, .str p_vs, .bool p_vb, .int .i64 p_wk, .int .i64 p_wn, .float .f64 p_wx, .str p_ws, .bool p_wb, .slice (encVals p_set)]] fr st = some (.ok (retE none (.bool (pimplies (⟨q_name, q_test, ⟨q_vk, q_vn, q_vx, q_vs, q_vb⟩, ⟨q_wk, q_wn, q_wx, q_ws, q_wb⟩, q_set⟩ : Pred) (⟨p_name, p_test, ⟨p_vk, p_vn, p_vx, p_vs, p_vb⟩, ⟨p_wk, p_wn, p_wx, p_ws, p_wb⟩, p_set⟩ : Pred)))) fr st) :=
  call_pure rfl fi27_eq rfl (fun st => c27 (⟨q_name, q_test, ⟨q_vk, q_vn, q_vx, q_vs, q_vb⟩, ⟨q_wk, q_wn, q_wx, q_ws, q_wb⟩, q_set⟩ : Pred) (⟨p_name, p_test, ⟨p_vk, p_vn, p_vx, p_vs, p_vb⟩, ⟨p_wk, p_wn, p_wx, p_ws, p_wb⟩, p_set⟩ : Pred) h_q h_p st) (by simp)
def fi28 : FI := { body := codeOf Try.f28, ntmps := 170, results := [.tmp 4], pers := [0, 1, 2, 3, 4, 5, 6, 7], locals := [2, 3], pure := true, marks := [] }
theorem fi28_eq : gS.fn 28 = some fi28 := by kernel_rfl
theorem st28 (a0 a1 : V) : startFr fi28 [a0, a1] = { ps := [(0, .val a0), (1, .val a1), (2, .any), (3, .any), (4, .any), (5, .any), (6, .any), (7, .any)], ts := [], lc := [] } := rfl
def b28 : Code := mini (codeOf Try.f28)
def c28_6 : Code := .seq (codeN b28 37) .ret
def c28_5 : Code := .cond (.tmp 15) c28_6 .skip
def c28_3 : Code := .seq (codeN b28 9) c28_5
def c28_14 : Code := .seq (codeN b28 75) .ret
def c28_13 : Code := .cond (.tmp 22) c28_14 .skip
def c28_11 : Code := .seq (codeN b28 19) c28_13
def c28_23 : Code := .seq (codeN b28 295) .ret
def c28_29 : Code := .seq (codeN b28 1255) .ret
def c28_35 : Code := .seq (codeN b28 5095) .ret
def c28_49 : Code := .cond (.tmp 75) .skip (.exit 1)
def c28_47 : Code := .seq (codeN b28 544743) c28_49
def r28_55 : Array Oper := regOps (codeN (codeOf Try.f28) 2248679)
def c28_55 : Code := .region 15 r28_55 true
def q28_55 : List (Oper × Fl) := [(op1 78 (.fieldAddr 27 (.tmp 2) 4) 0, ⟨true, false, true, false, false, false, true, true, false, false, []⟩),
 (ld 79 25 78 25, ⟨true, false, true, false, false, false, true, true, false, false, []⟩),
 (mv 80 5 3, ⟨true, false, true, false, false, false, true, true, false, false, []⟩),
 (ixa 81 25 79 80 0, ⟨true, false, true, false, false, false, true, true, false, false, []⟩),
 (ld 82 24 81 24, ⟨true, false, true, false, false, false, true, true, false, false, []⟩),
 (op1 83 (.fieldAddr 27 (.tmp 2) 4) 0, ⟨true, false, true, false, false, false, true, true, false, false, []⟩),
 (ld 84 25 83 25, ⟨true, false, true, false, false, false, true, true, false, false, []⟩),
 (mv 85 5 3, ⟨true, false, true, false, false, false, true, true, false, false, []⟩),
 (ixa 86 25 84 85 0, ⟨true, false, true, false, true, false, true, true, false, false, []⟩),
 (ld 87 24 86 24, ⟨true, false, true, false, true, false, true, true, false, false, []⟩),
 (cal 88 79 [(.tmp 82), (.tmp 87)] [24, 24] 4, ⟨true, true, true, false, true, true, true, true, false, false, []⟩),
 (mv 89 88 4, ⟨true, false, true, false, true, false, true, true, false, false, []⟩),
 (mk (some 90) (.load 27 (.tmp 3)) 27 (some (11, true)), ⟨true, false, true, false, false, false, true, true, false, false, []⟩),
 (mk (some 91) (.fieldAddr 27 (.tmp 2) 4) 0 (some (11, true)), ⟨true, false, true, false, false, false, true, true, false, false, []⟩),
 (mk (some 92) (.load 25 (.tmp 91)) 25 (some (11, true)), ⟨true, false, true, false, false, false, true, true, false, false, []⟩),
 (mk (some 93) (.move (.tmp 5)) 3 (some (11, true)), ⟨true, false, true, false, false, false, true, true, false, false, []⟩),
 (mk (some 94) (.indexAddr 25 (.tmp 92) (.tmp 93)) 0 (some (11, true)), ⟨true, false, true, false, true, false, true, true, false, false, []⟩),
 (mk (some 95) (.load 24 (.tmp 94)) 24 (some (11, true)), ⟨true, false, true, false, true, false, true, true, false, false, []⟩),
 (mk (some 96) (.call { callee := (.value (.func 22)), args := #[(.tmp 90), (.tmp 95)], argTypes := #[27, 24] }) 4 (some (11, true)), ⟨true, true, true, false, true, true, true, true, false, false, []⟩),
 (mk (some 97) (.unOp .not 4 (.tmp 96)) 4 (some (11, true)), ⟨true, false, true, false, true, false, true, true, false, false, []⟩),
 (op1 98 (.pick (.tmp 89) (.tmp 97) (.const (.bool false))) 4, ⟨true, false, true, false, true, false, true, true, false, false, []⟩)]
def c28_57 : Code := .seq (codeN b28 9588711) .ret
def c28_56 : Code := .cond (.tmp 98) c28_57 .skip
def c28_54 : Code := .seq c28_55 c28_56
def c28_61 : Code := codeN b28 937959
def c28_52 : Code := .seq (.block 2 c28_54) c28_61
def c28_46 : Code := .seq c28_47 c28_52
def c28_45 : Code := .loop c28_46
def c28_44 : Code := .block 1 c28_45
def c28_42 : Code := .seq (codeN b28 36839) c28_44
def c28_62 : Code := .seq (codeN b28 45031) .ret
def c28_41 : Code := .seq c28_42 c28_62
def r28_69 : Array Oper := regOps (codeN (codeOf Try.f28) 81895)
def c28_69 : Code := .region 19 r28_69 true
def q28_69 : List (Oper × Fl) := [(ld 106 27 2 27, ⟨true, false, true, false, false, false, true, true, false, false, []⟩),
 (cal 107 89 [(.tmp 106)] [27] 105, ⟨true, true, true, false, false, true, true, true, false, false, []⟩),
 (ld 108 27 3 27, ⟨true, false, true, false, true, false, true, true, false, false, []⟩),
 (cal 109 89 [(.tmp 108)] [27] 105, ⟨true, true, true, false, true, true, true, true, false, false, []⟩),
 (cal 110 88 [(.tmp 107), (.tmp 109), (.const (.int .i64 1))] [105, 105, 3] 4, ⟨true, true, true, false, true, true, true, true, false, false, []⟩),
 (mv 111 110 4, ⟨true, true, true, false, true, false, true, true, false, false, []⟩),
 (mk (some 112) (.load 27 (.tmp 2)) 27 (some (5, true)), ⟨true, false, true, false, false, false, true, true, false, false, []⟩),
 (mk (some 113) (.call { callee := (.value (.func 90)), args := #[(.tmp 112)], argTypes := #[27] }) 105 (some (5, true)), ⟨true, true, true, false, false, true, true, true, false, false, []⟩),
 (mk (some 114) (.load 27 (.tmp 3)) 27 (some (5, true)), ⟨true, false, true, false, true, false, true, true, false, false, []⟩),
 (mk (some 115) (.call { callee := (.value (.func 90)), args := #[(.tmp 114)], argTypes := #[27] }) 105 (some (5, true)), ⟨true, true, true, false, true, true, true, true, false, false, []⟩),
 (mk (some 116) (.call { callee := (.value (.func 88)), args := #[(.tmp 113), (.tmp 115), (.const (.int .i64 (-1)))], argTypes := #[105, 105, 3] }) 4 (some (5, true)), ⟨true, true, true, false, true, true, true, true, false, false, []⟩),
 (op1 117 (.pick (.tmp 111) (.tmp 116) (.const (.bool false))) 4, ⟨true, true, true, false, true, false, true, true, false, false, []⟩),
 (asn 4 117 4, ⟨true, true, true, false, true, false, true, true, false, false, []⟩)]
def c28_68 : Code := .seq c28_69 .ret
def c28_74 : Code := .seq (codeN b28 327655) .ret
def c28_82 : Code := .seq (codeN b28 2883559) .ret
def c28_80 : Code := .seq (codeN b28 1310695) c28_82
def c28_79 : Code := .cond (.tmp 134) c28_80 .skip
def c28_77 : Code := .seq (codeN b28 393191) c28_79
def c28_73 : Code := .cond (.tmp 118) c28_74 c28_77
def c28_71 : Code := .seq (codeN b28 98279) c28_73
theorem e28_71 : evK gS fi28 c28_71 fr st k = opsR gS fi28 [op1 119 (.fieldAddr 27 (.tmp 2) 1) 0,
 ld 120 3 119 3,
 op1 121 (.binOp .eql 3 (.tmp 120) (.const (.int .i64 9)) 3) 4,
 mv 122 121 4,
 mk (some 123) (.fieldAddr 27 (.tmp 3) 1) 0 (some (3, true)),
 mk (some 124) (.load 3 (.tmp 123)) 3 (some (3, true)),
 mk (some 125) (.binOp .eql 3 (.tmp 124) (.const (.int .i64 9)) 3) 4 (some (3, true)),
 op1 126 (.pick (.tmp 122) (.tmp 125) (.const (.bool false))) 4,
 asn 118 126 4] fr st (.seq c28_73 k) := evK_rs 20 rfl (by kernel_rfl)
def c28_67 : Code := .cond (.tmp 99) c28_68 c28_71
def c28_65 : Code := .seq (codeN b28 24551) c28_67
def c28_40 : Code := .cond (.tmp 67) c28_41 c28_65
def c28_38 : Code := .seq (codeN b28 6119) c28_40
def c28_34 : Code := .cond (.tmp 59) c28_35 c28_38
def c28_32 : Code := .seq (codeN b28 1511) c28_34
def c28_28 : Code := .cond (.tmp 50) c28_29 c28_32
def c28_26 : Code := .seq (codeN b28 359) c28_28
theorem e28_26 : evK gS fi28 c28_26 fr st k = opsR gS fi28 [op1 51 (.fieldAddr 27 (.tmp 3) 1) 0,
 ld 52 3 51 3,
 op1 53 (.binOp .eql 3 (.tmp 52) (.const (.int .i64 3)) 3) 4,
 asn 50 53 4] fr st (.seq c28_28 k) := evK_rs 7 rfl (by kernel_rfl)
def c28_22 : Code := .cond (.tmp 23) c28_23 c28_26
def c28_20 : Code := .seq (codeN b28 71) c28_22
def c28_86 : Code := .seq (codeN b28 47) .ret
def c28_18 : Code := .seq (.block 0 c28_20) c28_86
def c28_10 : Code := .seq c28_11 c28_18
def c28_2 : Code := .seq c28_3 c28_10
def c28_0 : Code := .seq (codeN b28 2) c28_2
theorem E28 : evK gS fi28 c28_6 fr st k = opsR gS fi28 [op1 4 (.assign (.const (.bool false))) 4] fr st (.seq .ret k) ∧
 evK gS fi28 c28_5 fr st k = condK gS fi28 (fr.op (.tmp 15)).bool? c28_6 .skip fr st k ∧
 (evK gS fi28 c28_3 fr st k = opsR gS fi28 [ld 8 27 2 27,
 cal 9 20 [(.tmp 8)] [27] 4,
 op1 10 (.unOp .not 4 (.tmp 9)) 4,
 mv 11 10 4,
 mk (some 12) (.load 27 (.tmp 3)) 27 (some (3, false)),
 mk (some 13) (.call { callee := (.value (.func 20)), args := #[(.tmp 12)], argTypes := #[27] }) 4 (some (3, false)),
 mk (some 14) (.unOp .not 4 (.tmp 13)) 4 (some (3, false)),
 op1 15 (.pick (.tmp 11) (.const (.bool true)) (.tmp 14)) 4] fr st (.seq c28_5 k)) ∧
 evK gS fi28 c28_14 fr st k = opsR gS fi28 [op1 4 (.assign (.const (.bool true))) 4] fr st (.seq .ret k) ∧
 evK gS fi28 c28_13 fr st k = condK gS fi28 (fr.op (.tmp 22)).bool? c28_14 .skip fr st k ∧
 (evK gS fi28 c28_11 fr st k = opsR gS fi28 [ld 16 27 2 27,
 cal 17 24 [(.tmp 16)] [27] 4,
 mv 18 17 4,
 mk (some 19) (.fieldAddr 27 (.tmp 3) 1) 0 (some (2, false)),
 mk (some 20) (.load 3 (.tmp 19)) 3 (some (2, false)),
 mk (some 21) (.binOp .eql 3 (.tmp 20) (.const (.int .i64 1)) 3) 4 (some (2, false)),
 op1 22 (.pick (.tmp 18) (.const (.bool true)) (.tmp 21)) 4] fr st (.seq c28_13 k)) ∧
 evK gS fi28 c28_23 fr st k = opsR gS fi28 [op1 4 (.assign (.const (.bool true))) 4] fr st (.seq .ret k) ∧
 (evK gS fi28 c28_29 fr st k = opsR gS fi28 [ld 54 27 2 27,
 op1 55 (.fieldAddr 27 (.tmp 3) 2) 0,
 ld 56 24 55 24,
 cal 57 22 [(.tmp 54), (.tmp 56)] [27, 24] 4,
 op1 58 (.unOp .not 4 (.tmp 57)) 4,
 asn 4 58 4] fr st (.seq .ret k)) ∧
 (evK gS fi28 c28_35 fr st k = opsR gS fi28 [ld 63 27 3 27,
 op1 64 (.fieldAddr 27 (.tmp 2) 2) 0,
 ld 65 24 64 24,
 cal 66 22 [(.tmp 63), (.tmp 65)] [27, 24] 4,
 asn 4 66 4] fr st (.seq .ret k)) ∧
 evK gS fi28 c28_49 fr st k = condK gS fi28 (fr.op (.tmp 75)).bool? .skip (.exit 1) fr st k ∧
 (evK gS fi28 c28_47 fr st k = opsR gS fi28 [mv 71 5 3,
 op1 72 (.fieldAddr 27 (.tmp 2) 4) 0,
 ld 73 25 72 25,
 len1 74 73 25 3,
 bop 75 .lss 3 71 74 3 4] fr st (.seq c28_49 k)) ∧
 evK gS fi28 c28_55 fr st k = drwR gS fi28 r28_55 q28_55 fr st k ∧
 evK gS fi28 c28_57 fr st k = opsR gS fi28 [op1 4 (.assign (.const (.bool false))) 4] fr st (.seq .ret k) ∧
 evK gS fi28 c28_56 fr st k = condK gS fi28 (fr.op (.tmp 98)).bool? c28_57 .skip fr st k ∧
 evK gS fi28 c28_54 fr st k = evK gS fi28 c28_55 fr st (.seq c28_56 k) ∧
 (evK gS fi28 c28_61 fr st k = opsR gS fi28 [mv 76 5 3,
 op1 77 (.binOp .add 3 (.tmp 76) (.const (.int .i64 1)) 3) 3,
 asn 5 77 3] fr st k) ∧
 evK gS fi28 c28_52 fr st k = evK gS fi28 c28_54 fr st (.blk 2 (.seq c28_61 k)) ∧
 evK gS fi28 c28_46 fr st k = evK gS fi28 c28_47 fr st (.seq c28_52 k) ∧
 evK gS fi28 c28_44 fr st k = evK gS fi28 c28_45 fr st (.blk 1 k) ∧
 evK gS fi28 c28_42 fr st k = opsR gS fi28 [op1 5 (.assign (.const (.int .i64 0))) 3] fr st (.seq c28_44 k) ∧
 evK gS fi28 c28_62 fr st k = opsR gS fi28 [op1 4 (.assign (.const (.bool true))) 4] fr st (.seq .ret k) ∧
 evK gS fi28 c28_41 fr st k = evK gS fi28 c28_42 fr st (.seq c28_62 k) ∧
 evK gS fi28 c28_69 fr st k = drwR gS fi28 r28_69 q28_69 fr st k ∧
 evK gS fi28 c28_68 fr st k = evK gS fi28 c28_69 fr st (.seq .ret k) ∧
 (evK gS fi28 c28_74 fr st k = opsR gS fi28 [op1 127 (.fieldAddr 27 (.tmp 2) 2) 0,
 op1 128 (.fieldAddr 24 (.tmp 127) 3) 0,
 ld 129 9 128 9,
 op1 130 (.fieldAddr 27 (.tmp 3) 2) 0,
 op1 131 (.fieldAddr 24 (.tmp 130) 3) 0,
 ld 132 9 131 9,
 cal 133 78 [(.tmp 129), (.tmp 132)] [9, 9] 4,
 asn 4 133 4] fr st (.seq .ret k)) ∧
 (evK gS fi28 c28_82 fr st k = opsR gS fi28 [mv 156 7 4,
 mv 157 156 4,
 mk (some 158) (.move (.tmp 6)) 3 (some (1, true)),
 mk (some 159) (.binOp .gtr 3 (.tmp 158) (.const (.int .i64 0)) 3) 4 (some (1, true)),
 mk (some 160) (.move (.tmp 159)) 4 (some (1, true)),
 mk (some 161) (.move (.tmp 6)) 3 (some (4, false)),
 mk (some 162) (.binOp .eql 3 (.tmp 161) (.const (.int .i64 0)) 3) 4 (some (4, false)),
 mk (some 163) (.move (.tmp 162)) 4 (some (4, false)),
 mk (some 164) (.fieldAddr 27 (.tmp 3) 1) 0 (some (7, true)),
 mk (some 165) (.load 3 (.tmp 164)) 3 (some (7, true)),
 mk (some 166) (.binOp .eql 3 (.tmp 165) (.const (.int .i64 7)) 3) 4 (some (7, true)),
 mk (some 167) (.pick (.tmp 163) (.tmp 166) (.const (.bool false))) 4 (some (4, false)),
 mk (some 168) (.pick (.tmp 160) (.const (.bool true)) (.tmp 167)) 4 (some (1, true)),
 op1 169 (.pick (.tmp 157) (.tmp 168) (.const (.bool false))) 4,
 asn 4 169 4] fr st (.seq .ret k)) ∧
 (evK gS fi28 c28_80 fr st k = opsR gS fi28 [op1 149 (.fieldAddr 27 (.tmp 2) 2) 0,
 ld 150 24 149 24,
 op1 151 (.fieldAddr 27 (.tmp 3) 2) 0,
 ld 152 24 151 24,
 cal 153 77 [(.tmp 150), (.tmp 152)] [24, 24] 94,
 mv 148 153 94,
 op1 154 (.extract (.tmp 148) 0) 3,
 op1 155 (.extract (.tmp 148) 1) 4,
 asn 6 154 3,
 asn 7 155 4] fr st (.seq c28_82 k)) ∧
 evK gS fi28 c28_79 fr st k = condK gS fi28 (fr.op (.tmp 134)).bool? c28_80 .skip fr st k ∧
 (evK gS fi28 c28_77 fr st k = opsR gS fi28 [op1 135 (.fieldAddr 27 (.tmp 2) 1) 0,
 ld 136 3 135 3,
 op1 137 (.binOp .eql 3 (.tmp 136) (.const (.int .i64 9)) 3) 4,
 mv 138 137 4,
 mk (some 139) (.fieldAddr 27 (.tmp 3) 1) 0 (some (3, true)),
 mk (some 140) (.load 3 (.tmp 139)) 3 (some (3, true)),
 mk (some 141) (.binOp .eql 3 (.tmp 140) (.const (.int .i64 7)) 3) 4 (some (3, true)),
 mk (some 142) (.move (.tmp 141)) 4 (some (3, true)),
 mk (some 143) (.fieldAddr 27 (.tmp 3) 1) 0 (some (7, false)),
 mk (some 144) (.load 3 (.tmp 143)) 3 (some (7, false)),
 mk (some 145) (.binOp .eql 3 (.tmp 144) (.const (.int .i64 6)) 3) 4 (some (7, false)),
 mk (some 146) (.pick (.tmp 142) (.const (.bool true)) (.tmp 145)) 4 (some (3, true)),
 op1 147 (.pick (.tmp 138) (.tmp 146) (.const (.bool false))) 4,
 asn 134 147 4] fr st (.seq c28_79 k)) ∧
 evK gS fi28 c28_73 fr st k = condK gS fi28 (fr.op (.tmp 118)).bool? c28_74 c28_77 fr st k ∧
 evK gS fi28 c28_67 fr st k = condK gS fi28 (fr.op (.tmp 99)).bool? c28_68 c28_71 fr st k ∧
 (evK gS fi28 c28_65 fr st k = opsR gS fi28 [ld 100 27 2 27,
 cal 101 87 [(.tmp 100)] [27] 4,
 mv 102 101 4,
 mk (some 103) (.load 27 (.tmp 3)) 27 (some (2, true)),
 mk (some 104) (.call { callee := (.value (.func 87)), args := #[(.tmp 103)], argTypes := #[27] }) 4 (some (2, true)),
 op1 105 (.pick (.tmp 102) (.tmp 104) (.const (.bool false))) 4,
 asn 99 105 4] fr st (.seq c28_67 k)) ∧
 evK gS fi28 c28_40 fr st k = condK gS fi28 (fr.op (.tmp 67)).bool? c28_41 c28_65 fr st k ∧
 (evK gS fi28 c28_38 fr st k = opsR gS fi28 [op1 68 (.fieldAddr 27 (.tmp 2) 1) 0,
 ld 69 3 68 3,
 op1 70 (.binOp .eql 3 (.tmp 69) (.const (.int .i64 10)) 3) 4,
 asn 67 70 4] fr st (.seq c28_40 k)) ∧
 evK gS fi28 c28_34 fr st k = condK gS fi28 (fr.op (.tmp 59)).bool? c28_35 c28_38 fr st k ∧
 (evK gS fi28 c28_32 fr st k = opsR gS fi28 [op1 60 (.fieldAddr 27 (.tmp 2) 1) 0,
 ld 61 3 60 3,
 op1 62 (.binOp .eql 3 (.tmp 61) (.const (.int .i64 2)) 3) 4,
 asn 59 62 4] fr st (.seq c28_34 k)) ∧
 evK gS fi28 c28_28 fr st k = condK gS fi28 (fr.op (.tmp 50)).bool? c28_29 c28_32 fr st k ∧
 evK gS fi28 c28_22 fr st k = condK gS fi28 (fr.op (.tmp 23)).bool? c28_23 c28_26 fr st k ∧
 (evK gS fi28 c28_20 fr st k = opsR gS fi28 [op1 24 (.fieldAddr 27 (.tmp 2) 1) 0,
 ld 25 3 24 3,
 op1 26 (.fieldAddr 27 (.tmp 3) 1) 0,
 ld 27 3 26 3,
 bop 28 .eql 3 25 27 3 4,
 mv 29 28 4,
 mk (some 30) (.fieldAddr 27 (.tmp 2) 2) 0 (some (5, true)),
 mk (some 31) (.load 24 (.tmp 30)) 24 (some (5, true)),
 mk (some 32) (.fieldAddr 27 (.tmp 3) 2) 0 (some (5, true)),
 mk (some 33) (.load 24 (.tmp 32)) 24 (some (5, true)),
 mk (some 34) (.call { callee := (.value (.func 82)), args := #[(.tmp 31), (.tmp 33)], argTypes := #[24, 24] }) 4 (some (5, true)),
 op1 35 (.pick (.tmp 29) (.tmp 34) (.const (.bool false))) 4,
 mv 36 35 4,
 mk (some 37) (.fieldAddr 27 (.tmp 2) 3) 0 (some (12, true)),
 mk (some 38) (.load 24 (.tmp 37)) 24 (some (12, true)),
 mk (some 39) (.fieldAddr 27 (.tmp 3) 3) 0 (some (12, true)),
 mk (some 40) (.load 24 (.tmp 39)) 24 (some (12, true)),
 mk (some 41) (.call { callee := (.value (.func 82)), args := #[(.tmp 38), (.tmp 40)], argTypes := #[24, 24] }) 4 (some (12, true)),
 op1 42 (.pick (.tmp 36) (.tmp 41) (.const (.bool false))) 4,
 mv 43 42 4,
 mk (some 44) (.fieldAddr 27 (.tmp 2) 4) 0 (some (19, true)),
 mk (some 45) (.load 25 (.tmp 44)) 25 (some (19, true)),
 mk (some 46) (.fieldAddr 27 (.tmp 3) 4) 0 (some (19, true)),
 mk (some 47) (.load 25 (.tmp 46)) 25 (some (19, true)),
 mk (some 48) (.call { callee := (.value (.func 83)), args := #[(.tmp 45), (.tmp 47)], argTypes := #[25, 25] }) 4 (some (19, true)),
 op1 49 (.pick (.tmp 43) (.tmp 48) (.const (.bool false))) 4,
 asn 23 49 4] fr st (.seq c28_22 k)) ∧
 evK gS fi28 c28_86 fr st k = opsR gS fi28 [op1 4 (.assign (.const (.bool false))) 4] fr st (.seq .ret k) ∧
 evK gS fi28 c28_18 fr st k = evK gS fi28 c28_20 fr st (.blk 0 (.seq c28_86 k)) ∧
 evK gS fi28 c28_10 fr st k = evK gS fi28 c28_11 fr st (.seq c28_18 k) ∧
 evK gS fi28 c28_2 fr st k = evK gS fi28 c28_3 fr st (.seq c28_10 k) ∧
 (evK gS fi28 c28_0 fr st k = opsR gS fi28 [op1 2 (.box 27 (.tmp 0)) 0,
 op1 3 (.box 27 (.tmp 1)) 0,
 op1 4 (.assign (.const (.bool false))) 4] fr st (.seq c28_2 k)) := ⟨evK_rs 2 rfl (by kernel_rfl), rfl, evK_rs 1 rfl (by kernel_rfl), evK_rs 4 rfl (by kernel_rfl), rfl, evK_rs 3 rfl (by kernel_rfl), evK_rs 6 rfl (by kernel_rfl), evK_rs 8 rfl (by kernel_rfl), evK_rs 10 rfl (by kernel_rfl), rfl, evK_rs 13 rfl (by kernel_rfl), evK_dr 15 rfl (by kernel_rfl) (by kernel_rfl), evK_rs 16 rfl (by kernel_rfl), rfl, rfl, evK_r 14 (by kernel_rfl), rfl, rfl, rfl, evK_rs 12 rfl (by kernel_rfl), evK_rs 17 rfl (by kernel_rfl), rfl, evK_dr 19 rfl (by kernel_rfl) (by kernel_rfl), rfl, evK_rs 21 rfl (by kernel_rfl), evK_rs 24 rfl (by kernel_rfl), evK_rs 23 rfl (by kernel_rfl), rfl, evK_rs 22 rfl (by kernel_rfl), rfl, rfl, evK_rs 18 rfl (by kernel_rfl), rfl, evK_rs 11 rfl (by kernel_rfl), rfl, evK_rs 9 rfl (by kernel_rfl), rfl, rfl, evK_rs 5 rfl (by kernel_rfl), evK_rs 25 rfl (by kernel_rfl), rfl, rfl, rfl, evK_rs 0 rfl (by kernel_rfl)⟩
theorem m28 : mini fi28.body = c28_0 := by kernel_rfl
theorem n28_45 (fr : Fr) (st : St) (k : Kt) : nextK gS fi28 (.loop c28_46 k) .normal fr st = evK gS fi28 c28_45 fr st k := rfl
set_option maxHeartbeats 4000000 in
theorem L28_45 (q : Pred) (p : Pred) (h_q : q.ok) (h_p : p.ok) (st : St) : ∀ (n i : Nat) (j : Int)  (e0 e1 e4 e6 e7 : E) (T : List (Nat × E)) (X : List (Nat × List V)) (ht0 : e0.Tame) (ht1 : e1.Tame) (ht4 : e4.Tame) (ht6 : e6.Tame) (ht7 : e7.Tame) (hx2 : lk X 2 = some [.str q.name, .int .i64 q.test, .int .i64 q.v.kind, .int .i64 q.v.n, .float .f64 q.v.x, .str q.v.s, .bool q.v.b, .int .i64 q.w.kind, .int .i64 q.w.n, .float .f64 q.w.x, .str q.w.s, .bool q.w.b, .slice (encVals q.set)]) (hx3 : lk X 3 = some [.str p.name, .int .i64 p.test, .int .i64 p.v.kind, .int .i64 p.v.n, .float .f64 p.v.x, .str p.v.s, .bool p.v.b, .int .i64 p.w.kind, .int .i64 p.w.n, .float .f64 p.w.x, .str p.w.s, .bool p.w.b, .slice (encVals p.set)]) , j = (i : Int) → i ≤ (q.set).length → (q.set).length - i = n →
    evK gS fi28 c28_45 { ps := [(0, e0), (1, e1), (2, .lp 2 0), (3, .lp 3 0), (4, e4), (5, .val (.int .i64 j)), (6, e6), (7, e7)], ts := T, lc := X } st (.blk 1 (.seq c28_62 (.blk 0 (.seq c28_86 .nil)))) = some ((.ret (.bool ((q.set.drop i).all (fun v => !vis v v || ptakes p v))) none), st) := by
  intro n
  have hm : fi28.marks = [] := rfl
  have hl : fi28.locals = [2, 3] := rfl
  have hr : fi28.results = [.tmp 4] := rfl
  have hpo := h_q.2
  induction n with
  | zero =>
    intro i j  e0 e1 e4 e6 e7 T X ht0 ht1 ht4 ht6 ht7 hx2 hx3  hj hi hn
    obtain rfl : i = (q.set).length := by omega
    subst hj
    refine evK_loop c28_46 _ st _ _ rfl ?_
    simp (config := { contextual := true, maxSteps := 10000000, maxDischargeDepth := 6 }) [-Int.not_le, -Int.not_lt, -Nat.not_le, -Nat.not_lt, ty3, ty4, ty9, ty24, ty25, ty27, ty105, eq24, hm, hl, hr, k20, x20, fi20_eq, p20, k22, x22, fi22_eq, p22, k24, x24, fi24_eq, p24, k77, x77, fi77_eq, p77, k78, x78, fi78_eq, p78, k79, x79, fi79_eq, p79, k82, x82, fi82_eq, p82, k83, x83, fi83_eq, p83, k87, x87, fi87_eq, p87, k88, x88, fi88_eq, p88, k89, x89, fi89_eq, p89, k90, x90, fi90_eq, p90, E28, q28_55, q28_69, e28_71, e28_26, n28_45, h_q.1, h_q.2, h_p.1, h_p.2, ht0, ht1, ht4, ht6, ht7, hx2, hx3]
    all_goals first | done | grind | omega | (trace_state; fail)
  | succ n ih =>
    intro i j  e0 e1 e4 e6 e7 T X ht0 ht1 ht4 ht6 ht7 hx2 hx3  hj hi hn
    subst hj
    obtain ⟨x, hx⟩ : ∃ x, (q.set)[i]? = some x := ⟨(q.set)[i]'(by omega), List.getElem?_eq_getElem (by omega)⟩
    have hd := drop_get hx
    have hlt : (i : Int) < ((q.set).length : Int) := by omega
    have hlt2 : i < (q.set).length := by omega
    have hxe : (q.set)[i]'hlt2 = x := by rw [List.getElem?_eq_getElem hlt2] at hx; exact Option.some.inj hx
    have hw : IntKind.wrap .i64 ((i : Int) + 1) = (i : Int) + 1 := wrap64 (by omega) (by omega)
    have IH := fun e0 e1 e4 e6 e7 T X ht0 ht1 ht4 ht6 ht7 hx2 hx3 => ih (i + 1) ((i : Int) + 1) e0 e1 e4 e6 e7 T X ht0 ht1 ht4 ht6 ht7 hx2 hx3 rfl (by omega) (by omega)
    refine evK_loop c28_46 _ st _ _ rfl ?_
    simp (config := { contextual := true, maxSteps := 10000000, maxDischargeDepth := 6 }) [-Int.not_le, -Int.not_lt, -Nat.not_le, -Nat.not_lt, ty3, ty4, ty9, ty24, ty25, ty27, ty105, eq24, hm, hl, hr, k20, x20, fi20_eq, p20, k22, x22, fi22_eq, p22, k24, x24, fi24_eq, p24, k77, x77, fi77_eq, p77, k78, x78, fi78_eq, p78, k79, x79, fi79_eq, p79, k82, x82, fi82_eq, p82, k83, x83, fi83_eq, p83, k87, x87, fi87_eq, p87, k88, x88, fi88_eq, p88, k89, x89, fi89_eq, p89, k90, x90, fi90_eq, p90, E28, q28_55, q28_69, e28_71, e28_26, n28_45, h_q.1, h_q.2, h_p.1, h_p.2, ht0, ht1, ht4, ht6, ht7, hx2, hx3, hx, hxe, hd, hlt, hlt2, hw, IH]
    all_goals first | done | grind | omega | (trace_state; fail)
set_option maxHeartbeats 4000000 in
theorem T28_71 (q : Pred) (p : Pred) (h_q : q.ok) (h_p : p.ok) (st : St) (e0 e1 e4 e5 e6 e7 : E) (T : List (Nat × E)) (X : List (Nat × List V)) (ht0 : e0.Tame) (ht1 : e1.Tame) (ht4 : e4.Tame) (ht5 : e5.Tame) (ht6 : e6.Tame) (ht7 : e7.Tame) (hx2 : lk X 2 = some [.str q.name, .int .i64 q.test, .int .i64 q.v.kind, .int .i64 q.v.n, .float .f64 q.v.x, .str q.v.s, .bool q.v.b, .int .i64 q.w.kind, .int .i64 q.w.n, .float .f64 q.w.x, .str q.w.s, .bool q.w.b, .slice (encVals q.set)]) (hx3 : lk X 3 = some [.str p.name, .int .i64 p.test, .int .i64 p.v.kind, .int .i64 p.v.n, .float .f64 p.v.x, .str p.v.s, .bool p.v.b, .int .i64 p.w.kind, .int .i64 p.w.n, .float .f64 p.w.x, .str p.w.s, .bool p.w.b, .slice (encVals p.set)])  :
    evK gS fi28 c28_71 { ps := [(0, e0), (1, e1), (2, .lp 2 0), (3, .lp 3 0), (4, e4), (5, e5), (6, e6), (7, e7)], ts := T, lc := X } st (.blk 0 (.seq c28_86 .nil)) = some ((.ret (.bool (rest71 q p)) none), st) := by
  have hm : fi28.marks = [] := rfl
  have hl : fi28.locals = [2, 3] := rfl
  have hr : fi28.results = [.tmp 4] := rfl
  simp (config := { contextual := true, maxSteps := 10000000, maxDischargeDepth := 6 }) [-Int.not_le, -Int.not_lt, -Nat.not_le, -Nat.not_lt, ty3, ty4, ty9, ty24, ty25, ty27, ty105, eq24, hm, hl, hr, k20, x20, fi20_eq, p20, k22, x22, fi22_eq, p22, k24, x24, fi24_eq, p24, k77, x77, fi77_eq, p77, k78, x78, fi78_eq, p78, k79, x79, fi79_eq, p79, k82, x82, fi82_eq, p82, k83, x83, fi83_eq, p83, k87, x87, fi87_eq, p87, k88, x88, fi88_eq, p88, k89, x89, fi89_eq, p89, k90, x90, fi90_eq, p90, E28, q28_55, q28_69, e28_71, e28_26, n28_45, -ib_eql, -ib_neq, ib_eqlO, ib_neqO, h_q.1, h_q.2, h_p.1, h_p.2, ht0, ht1, ht4, ht5, ht6, ht7, hx2, hx3]
  all_goals try simp (config := { contextual := true }) [-Int.not_le, -Int.not_lt, -Nat.not_le, -Nat.not_lt, ieq, rest71]
  all_goals first | done | grind | omega | (trace_state; fail)
set_option maxHeartbeats 4000000 in
theorem T28_26 (q : Pred) (p : Pred) (h_q : q.ok) (h_p : p.ok) (st : St) (e0 e1 e4 e5 e6 e7 : E) (T : List (Nat × E)) (X : List (Nat × List V)) (ht0 : e0.Tame) (ht1 : e1.Tame) (ht4 : e4.Tame) (ht5 : e5.Tame) (ht6 : e6.Tame) (ht7 : e7.Tame) (hx2 : lk X 2 = some [.str q.name, .int .i64 q.test, .int .i64 q.v.kind, .int .i64 q.v.n, .float .f64 q.v.x, .str q.v.s, .bool q.v.b, .int .i64 q.w.kind, .int .i64 q.w.n, .float .f64 q.w.x, .str q.w.s, .bool q.w.b, .slice (encVals q.set)]) (hx3 : lk X 3 = some [.str p.name, .int .i64 p.test, .int .i64 p.v.kind, .int .i64 p.v.n, .float .f64 p.v.x, .str p.v.s, .bool p.v.b, .int .i64 p.w.kind, .int .i64 p.w.n, .float .f64 p.w.x, .str p.w.s, .bool p.w.b, .slice (encVals p.set)])  :
    evK gS fi28 c28_26 { ps := [(0, e0), (1, e1), (2, .lp 2 0), (3, .lp 3 0), (4, e4), (5, e5), (6, e6), (7, e7)], ts := T, lc := X } st (.blk 0 (.seq c28_86 .nil)) = some ((.ret (.bool (restR q p)) none), st) := by
  have hm : fi28.marks = [] := rfl
  have hl : fi28.locals = [2, 3] := rfl
  have hr : fi28.results = [.tmp 4] := rfl
  simp (config := { contextual := true, maxSteps := 10000000, maxDischargeDepth := 6 }) [-Int.not_le, -Int.not_lt, -Nat.not_le, -Nat.not_lt, ty3, ty4, ty9, ty24, ty25, ty27, ty105, eq24, hm, hl, hr, k20, x20, fi20_eq, p20, k22, x22, fi22_eq, p22, k24, x24, fi24_eq, p24, k77, x77, fi77_eq, p77, k78, x78, fi78_eq, p78, k79, x79, fi79_eq, p79, k82, x82, fi82_eq, p82, k83, x83, fi83_eq, p83, k87, x87, fi87_eq, p87, k88, x88, fi88_eq, p88, k89, x89, fi89_eq, p89, k90, x90, fi90_eq, p90, E28, q28_55, q28_69, e28_26, n28_45, -ib_eql, -ib_neq, ib_eqlO, ib_neqO, h_q.1, h_q.2, h_p.1, h_p.2, T28_71 q p h_q h_p, (fun e0 e1 e4 e6 e7 T X ht0 ht1 ht4 ht6 ht7 hx2 hx3 => L28_45 q p h_q h_p st _ 0 0  e0 e1 e4 e6 e7 T X ht0 ht1 ht4 ht6 ht7 hx2 hx3 rfl (Nat.zero_le _) rfl), ht0, ht1, ht4, ht5, ht6, ht7, hx2, hx3]
  all_goals try simp (config := { contextual := true }) [-Int.not_le, -Int.not_lt, -Nat.not_le, -Nat.not_lt, ieq, restR, rest71, endedB]
  all_goals first | done | grind | omega | (trace_state; fail)
set_option maxHeartbeats 4000000 in
theorem c28 (q : Pred) (p : Pred)  (h_q : Pred.ok q) (h_p : Pred.ok p) (st : St) : EvF gS 28 [q.enc, p.enc] st = some (.ret (.bool (pimplies q p)) none, st) := by
  refine EvF_start fi28_eq (fun x h => by cases h) m28 ?_
  rw [st28]
  have hm : fi28.marks = [] := rfl
  have hl : fi28.locals = [2, 3] := rfl
  have hr : fi28.results = [.tmp 4] := rfl
  simp (config := { contextual := true, maxSteps := 10000000, maxDischargeDepth := 6 }) [-Int.not_le, -Int.not_lt, -Nat.not_le, -Nat.not_lt, ty3, ty4, ty9, ty24, ty25, ty27, ty105, eq24, hm, hl, hr, k20, x20, fi20_eq, p20, k22, x22, fi22_eq, p22, k24, x24, fi24_eq, p24, k77, x77, fi77_eq, p77, k78, x78, fi78_eq, p78, k79, x79, fi79_eq, p79, k82, x82, fi82_eq, p82, k83, x83, fi83_eq, p83, k87, x87, fi87_eq, p87, k88, x88, fi88_eq, p88, k89, x89, fi89_eq, p89, k90, x90, fi90_eq, p90, E28, q28_55, q28_69, n28_45, -ib_eql, -ib_neq, ib_eqlO, ib_neqO, T28_26 q p h_q h_p, h_q.1, h_q.2, h_p.1, h_p.2]
  all_goals try simp (config := { contextual := true }) [-Int.not_le, -Int.not_lt, -Nat.not_le, -Nat.not_lt, ieq]
  all_goals try simp (config := { contextual := true }) [ieq]
  all_goals (by_cases a1 : pright q = true)
  all_goals (by_cases a2 : pright p = true)
  all_goals (cases a3 : pvoid q)
  all_goals (by_cases a4 : p.test = 1)
  all_goals first | (have hk := pimplies_eq (q := q) (p := p) a1 a2 a3 a4) | (have hk : True := trivial)
  all_goals (simp [a1, a2, a3, a4, pimplies] at *)
  all_goals grind
theorem k28 (q_name : List UInt8) (q_test : Int) (q_vk : Int) (q_vn : Int) (q_vx : Nat) (q_vs : List UInt8) (q_vb : Bool) (q_wk : Int) (q_wn : Int) (q_wx : Nat) (q_ws : List UInt8) (q_wb : Bool) (q_set : List Val) (p_name : List UInt8) (p_test : Int) (p_vk : Int) (p_vn : Int) (p_vx : Nat) (p_vs : List UInt8) (p_vb : Bool) (p_wk : Int) (p_wn : Int) (p_wx : Nat) (p_ws : List UInt8) (p_wb : Bool) (p_set : List Val)  (h_q : Pred.ok (⟨q_name, q_test, ⟨q_vk, q_vn, q_vx, q_vs, q_vb⟩, ⟨q_wk, q_wn, q_wx, q_ws, q_wb⟩, q_set⟩ : Pred)) (h_p : Pred.ok (⟨p_name, p_test, ⟨p_vk, p_vn, p_vx, p_vs, p_vb⟩, ⟨p_wk, p_wn, p_wx, p_ws, p_wb⟩, p_set⟩ : Pred)) (fr : Fr) (st : St) : callStep gS (EvF gS) 28 [.agg [.str q_name, .int .i64 q_test, .int .i64 q_vk, .int .i64 q_vn, .float .f64 q_vx, .str q_vs, .bool q_vb, .int .i64 q_wk, .int .i64 q_wn, .float .f64 q_wx, .str q_ws, .bool q_wb, .slice (encVals q_set)], .agg [.str p_name, .int .i64 p_test, .int .i64 p_vk, .int .i64 p_vn, .float .f64 p_vx, .str p_vs, .bool p_vb, .int .i64 p_wk, .int .i64 p_wn, .float .f64 p_wx, .str p_ws, .bool p_wb, .slice (encVals p_set)]] fr st = some (.ok (retE none (.bool (pimplies (⟨q_name, q_test, ⟨q_vk, q_vn, q_vx, q_vs, q_vb⟩, ⟨q_wk, q_wn, q_wx, q_ws, q_wb⟩, q_set⟩ : Pred) (⟨p_name, p_test, ⟨p_vk, p_vn, p_vx, p_vs, p_vb⟩, ⟨p_wk, p_wn, p_wx, p_ws, p_wb⟩, p_set⟩ : Pred)))) fr st) :=
  call_pure rfl fi28_eq rfl (fun st => c28 (⟨q_name, q_test, ⟨q_vk, q_vn, q_vx, q_vs, q_vb⟩, ⟨q_wk, q_wn, q_wx, q_ws, q_wb⟩, q_set⟩ : Pred) (⟨p_name, p_test, ⟨p_vk, p_vn, p_vx, p_vs, p_vb⟩, ⟨p_wk, p_wn, p_wx, p_ws, p_wb⟩, p_set⟩ : Pred) h_q h_p st) (by simp)
theorem x28 : gS.ext 28 = none := rfl
theorem p28 : fi28.pure = true := rfl
end
end Go.Proofs.Ytclpbfkbpcjejaa
namespace Go.Ab
open Go
set_option linter.unusedVariables false
set_option linter.unusedSimpArgs false
set_option linter.unnecessarySimpa false
def intVs (l : List Int) : List V := l.map (V.int .i64)
theorem intVs_length (l : List Int) : (intVs l).length = l.length := by simp [intVs]
theorem intVs_get (l : List Int) (i : Nat) : (intVs l)[i]? = (l[i]?).map (V.int .i64) := by simp [intVs]
theorem intVs_gE (l : List Int) (i : Nat) (h : i < (intVs l).length) : (intVs l)[i]'h = .int .i64 (l[i]'(by rw [intVs_length] at h; exact h)) := by simp [intVs]
theorem flats_ints (l : List Int) : flats (intVs l) = true := by
  induction l with
  | nil => rfl
  | cons x r ih => simp only [intVs, List.map_cons, flats, V.flat] at ih ⊢; exact ih
attribute [simp] intVs_length intVs_get intVs_gE flats_ints
def pickI (n m : Int) : Int := if m < 1 then 0 else if n.tmod m < 0 then n.tmod m + m else n.tmod m
theorem tmod_bound (n : Int) {m : Int} (h : 1 ≤ m) : -m < n.tmod m ∧ n.tmod m < m := by
  have b1 := Int.tmod_lt_of_pos n (by omega : 0 < m)
  refine ⟨?_, b1⟩
  rcases Int.lt_or_le n 0 with hk | hk
  · have : n.tmod m = -((-n).tmod m) := by rw [Int.neg_tmod]; omega
    have := Int.tmod_lt_of_pos (-n) (by omega : 0 < m)
    omega
  · have := Int.tmod_nonneg m hk; omega
theorem pickI_bound (n : Int) {m : Int} (h : 1 ≤ m) : 0 ≤ pickI n m ∧ pickI n m < m := by
  have := tmod_bound n h
  unfold pickI
  rw [if_neg (by omega)]
  split <;> omega
/-- The feed's memory. -/
def FeedAt (st : St) (id : Nat) (l : List Int) (a : Nat) : Prop := st.objs[id]? = some [.slice (intVs l), .int .i64 a] ∧ st.wp ≤ id
def setF (st : St) (id : Nat) (l : List Int) (a : Nat) : St := { st with objs := st.objs.set id [.slice (intVs l), .int .i64 a] }
theorem FeedAt.lt {st : St} {id : Nat} {l : List Int} {a : Nat} (h : FeedAt st id l a) : id < st.objs.length := (List.getElem?_eq_some_iff.1 h.1).1
theorem setF_setF (st : St) (id : Nat) (l : List Int) (a b : Nat) : setF (setF st id l a) id l b = setF st id l b := by
  unfold setF; simp
theorem setF_same {st : St} {id : Nat} {l : List Int} {a : Nat} (h : FeedAt st id l a) : setF st id l a = st := by
  unfold setF
  obtain ⟨os, wp⟩ := st
  have h1 : os[id]? = some [.slice (intVs l), .int .i64 a] := h.1
  have h2 : id < os.length := h.lt
  congr 1
  show os.set id _ = os
  apply List.ext_getElem?
  intro j
  rw [List.getElem?_set]
  split
  · rename_i hj; subst hj; rw [h1]
  · rfl
/-- The raw number at a place. -/
def rawAt (l : List Int) (a : Nat) : Int := IntKind.wrap .i64 (IntKind.wrap .i64 ((l.getD (a % l.length) 0).tdiv (1 + (a / l.length : Nat))) + (a / l.length : Nat))
def nextV (l : List Int) (a : Nat) (n : Int) : Int := if l = [] then 0 else pickI (rawAt l a) n
def nextA (l : List Int) (a : Nat) : Nat := if l = [] then a else a + 1
theorem nextV_bound (l : List Int) (a : Nat) {n : Int} (h : 1 ≤ n) : 0 ≤ nextV l a n ∧ nextV l a n < n := by
  unfold nextV; split
  · omega
  · exact pickI_bound _ h
/-- Where a feed stands when it was asked `j` times. -/
def nA (l : List Int) (a j : Nat) : Nat := if l = [] then a else a + j
theorem nA_next (l : List Int) (a j : Nat) : nextA l (nA l a j) = nA l a (j + 1) := by
  unfold nextA nA; split <;> omega
theorem nA_le (l : List Int) (a j : Nat) : nA l a j ≤ a + j := by unfold nA; split <;> omega
def FeedOk (st : St) (id : Nat) : Prop := id < st.objs.length ∧ st.wp ≤ id
theorem feed_at {st : St} {id : Nat} (h : FeedOk st id) (l : List Int) (b : Nat) : FeedAt (setF st id l b) id l b := by
  refine ⟨?_, h.2⟩
  show (st.objs.set id _)[id]? = _
  rw [List.getElem?_set_self h.1]
/-- What a feed yields that was asked `j` times. -/
def fd (l : List Int) (a j : Nat) (n : Int) : Int := nextV l (nA l a j) n
theorem fd_bound (l : List Int) (a j : Nat) {n : Int} (h : 1 ≤ n) : 0 ≤ fd l a j n ∧ fd l a j n < n := nextV_bound _ _ h
def F14 : List Nat := [0, 9223372036854775808, 4607182418800017408, 4609434218613702656, 4611686018427387904, 4613937818241073152, 13830554455654793216, 4591870180066957722, 9221120237041090561, 9218868437227405312, 18442240474082181120, 4845873199050653696, 4890909195324358656, 1]
def floatV (l : List Int) (a j : Nat) : Nat := F14.getD (fd l a j 14).toNat 0
def T6 : List (List UInt8) := [[], [97], [97, 98], [98], [98, 97], [116, 119, 101, 108, 118, 101, 32, 98, 121, 116, 101, 115]]
def N6 : List Int := [-9223372036854775808, 9223372036854775807, 9007199254740992, 9007199254740993, -1, 4611686018427387904]
/-- A right value: of two asks. -/
def valueV (l : List Int) (a j : Nat) : Val :=
  let z := fd l a j 8
  if z = 0 ∨ z = 1 then ⟨2, 0, floatV l a (j + 1), [], false⟩
  else if z = 2 then ⟨3, 0, 0, T6.getD (fd l a (j + 1) 6).toNat [], false⟩
  else if z = 3 then ⟨4, 0, 0, [], fd l a (j + 1) 2 = 1⟩
  else if z = 4 then ⟨1, N6.getD (fd l a (j + 1) 6).toNat 0, 0, [], false⟩
  else ⟨1, fd l a (j + 1) 5, 0, [], false⟩
/-- So many values, one behind the other. -/
def valsV (l : List Int) (a : Nat) : Nat → Nat → List Val
  | _, 0 => []
  | j, k + 1 => valueV l a j :: valsV l a (j + 2) k
def P4 : List (List UInt8) := [[], [97], [98], [97, 98]]
/-- A right test of a name, and how many asks it took. -/
def predV (l : List Int) (a j : Nat) (name : List UInt8) : Pred × Nat :=
  let t := 1 + fd l a j 10
  if t = 1 then (⟨name, 1, vzero, vzero, []⟩, 1)
  else if t = 9 then (⟨name, 9, ⟨3, 0, 0, P4.getD (fd l a (j + 1) 4).toNat [], false⟩, vzero, []⟩, 2)
  else if t = 10 then (⟨name, 10, vzero, vzero, valsV l a (j + 2) ((fd l a (j + 1) 4).toNat + 1)⟩, 2 + 2 * ((fd l a (j + 1) 4).toNat + 1))
  else if t = 8 then (⟨name, 8, valueV l a (j + 1), valueV l a (j + 3), []⟩, 5)
  else (⟨name, t, valueV l a (j + 1), vzero, []⟩, 3)
end Go.Ab
namespace Go.Proofs.Ytclpbfkbpcjejaa
open Go Go.Ab
set_option linter.unusedVariables false
set_option linter.unusedSimpArgs false
set_option linter.unnecessarySimpa false
set_option maxRecDepth 20000
noncomputable section
variable (fr : Fr) (st : St) (k : Kt)
def fi52 : FI := { body := codeOf Try.f52, ntmps := 17, results := [.tmp 4], pers := [0, 1, 4, 5], locals := [], pure := true, marks := [] }
theorem fi52_eq : gS.fn 52 = some fi52 := by kernel_rfl
theorem st52 (a0 a1 : V) : startFr fi52 [a0, a1] = { ps := [(0, .val a0), (1, .val a1), (4, .any), (5, .any)], ts := [], lc := [] } := rfl
def b52 : Code := mini (codeOf Try.f52)
def c52_6 : Code := .seq (codeN b52 37) .ret
def c52_5 : Code := .cond (.tmp 7) c52_6 .skip
def c52_3 : Code := .seq (codeN b52 9) c52_5
def c52_16 : Code := codeN b52 87
def c52_15 : Code := .cond (.tmp 12) c52_16 .skip
def c52_13 : Code := .seq (codeN b52 39) c52_15
def c52_18 : Code := .seq (codeN b52 47) .ret
def c52_12 : Code := .seq c52_13 c52_18
def c52_10 : Code := .seq (codeN b52 11) c52_12
def c52_2 : Code := .seq c52_3 c52_10
def c52_0 : Code := .seq (codeN b52 2) c52_2
theorem E52 : evK gS fi52 c52_6 fr st k = opsR gS fi52 [op1 4 (.assign (.const (.int .i64 0))) 3] fr st (.seq .ret k) ∧
 evK gS fi52 c52_5 fr st k = condK gS fi52 (fr.op (.tmp 7)).bool? c52_6 .skip fr st k ∧
 (evK gS fi52 c52_3 fr st k = opsR gS fi52 [mv 6 1 3,
 op1 7 (.binOp .lss 3 (.tmp 6) (.const (.int .i64 1)) 3) 4] fr st (.seq c52_5 k)) ∧
 (evK gS fi52 c52_16 fr st k = opsR gS fi52 [mv 13 5 3,
 mv 14 1 3,
 bop 15 .add 3 13 14 3 3,
 asn 5 15 3] fr st k) ∧
 evK gS fi52 c52_15 fr st k = condK gS fi52 (fr.op (.tmp 12)).bool? c52_16 .skip fr st k ∧
 (evK gS fi52 c52_13 fr st k = opsR gS fi52 [mv 11 5 3,
 op1 12 (.binOp .lss 3 (.tmp 11) (.const (.int .i64 0)) 3) 4] fr st (.seq c52_15 k)) ∧
 (evK gS fi52 c52_18 fr st k = opsR gS fi52 [mv 16 5 3,
 asn 4 16 3] fr st (.seq .ret k)) ∧
 evK gS fi52 c52_12 fr st k = evK gS fi52 c52_13 fr st (.seq c52_18 k) ∧
 (evK gS fi52 c52_10 fr st k = opsR gS fi52 [mv 8 0 3,
 mv 9 1 3,
 bop 10 .rem 3 8 9 3 3,
 asn 5 10 3] fr st (.seq c52_12 k)) ∧
 evK gS fi52 c52_2 fr st k = evK gS fi52 c52_3 fr st (.seq c52_10 k) ∧
 evK gS fi52 c52_0 fr st k = opsR gS fi52 [op1 4 (.assign (.const (.int .i64 0))) 3] fr st (.seq c52_2 k) := ⟨evK_rs 2 rfl (by kernel_rfl), rfl, evK_rs 1 rfl (by kernel_rfl), evK_r 5 (by kernel_rfl), rfl, evK_rs 4 rfl (by kernel_rfl), evK_rs 6 rfl (by kernel_rfl), rfl, evK_rs 3 rfl (by kernel_rfl), rfl, evK_rs 0 rfl (by kernel_rfl)⟩
theorem m52 : mini fi52.body = c52_0 := by kernel_rfl
set_option maxHeartbeats 4000000 in
theorem c52 (n : Int) (m : Int) (hm1 : m ≤ 4611686018427387904) (st : St) : EvF gS 52 [.int .i64 n, .int .i64 m] st = some (.ret (.int .i64 (pickI n m)) none, st) := by
  refine EvF_start fi52_eq (fun x h => by cases h) m52 ?_
  rw [st52]
  have hm : fi52.marks = [] := rfl
  have hl : fi52.locals = [] := rfl
  have hr : fi52.results = [.tmp 4] := rfl
  by_cases h1 : m < 1
  · simp [h1, pickI, -Int.not_le, -Int.not_lt, -Nat.not_le, -Nat.not_lt, ty3, ty4, hm, hl, hr, E52]
  · have h0 : ¬ m = 0 := by omega
    have hb := tmod_bound n (m := m) (by omega)
    by_cases h2 : n.tmod m < 0
    · have hw : IntKind.wrap .i64 (n.tmod m + m) = n.tmod m + m := wrap64 (by omega) (by omega)
      simp [h1, h0, h2, hw, pickI, -Int.not_le, -Int.not_lt, -Nat.not_le, -Nat.not_lt, ty3, ty4, hm, hl, hr, E52]
    · simp [h1, h0, h2, pickI, -Int.not_le, -Int.not_lt, -Nat.not_le, -Nat.not_lt, ty3, ty4, hm, hl, hr, E52]
theorem k52 (n : Int) (m : Int) (hm1 : m ≤ 4611686018427387904) (fr : Fr) (st : St) : callStep gS (EvF gS) 52 [.int .i64 n, .int .i64 m] fr st = some (.ok (retE none (.int .i64 (pickI n m))) fr st) :=
  call_pure rfl fi52_eq rfl (fun st => c52 n m hm1 st) (by simp)
theorem x52 : gS.ext 52 = none := rfl
theorem p52 : fi52.pure = true := rfl
def fi16 : FI := { body := codeOf Try.f16, ntmps := 61, results := [.tmp 4], pers := [0, 1, 4, 5], locals := [], pure := false, marks := [] }
theorem fi16_eq : gS.fn 16 = some fi16 := by kernel_rfl
theorem st16 (a0 a1 : V) : startFr fi16 [a0, a1] = { ps := [(0, .val a0), (1, .val a1), (4, .any), (5, .any)], ts := [], lc := [] } := rfl
def b16 : Code := mini (codeOf Try.f16)
def c16_6 : Code := .seq (codeN b16 37) .ret
def c16_5 : Code := .cond (.tmp 11) c16_6 .skip
def c16_3 : Code := .seq (codeN b16 9) c16_5
def r16_11 : Array Oper := regOps (codeN (codeOf Try.f16) 11)
def c16_11 : Code := .region 3 r16_11 true
def q16_11 : List (Oper × Fl) := [(mv 12 0 29, ⟨true, false, true, false, false, false, true, true, false, false, []⟩),
 (op1 13 (.nilCheck (.tmp 12)) 0, ⟨true, false, true, false, false, false, true, true, false, false, []⟩),
 (op1 14 (.fieldAddr 31 (.tmp 13) 0) 0, ⟨true, false, true, false, false, false, true, true, false, false, []⟩),
 (ld 15 28 14 28, ⟨true, false, true, false, false, false, true, true, false, false, []⟩),
 (mv 16 0 29, ⟨true, false, true, false, false, false, true, true, false, false, []⟩),
 (op1 17 (.nilCheck (.tmp 16)) 0, ⟨true, false, true, false, false, false, true, true, false, false, []⟩),
 (op1 18 (.fieldAddr 31 (.tmp 17) 1) 0, ⟨true, false, true, false, false, false, true, true, false, false, []⟩),
 (ld 19 3 18 3, ⟨true, false, true, false, false, false, true, true, false, false, []⟩),
 (mv 20 0 29, ⟨true, false, true, false, false, false, true, true, false, false, []⟩),
 (op1 21 (.nilCheck (.tmp 20)) 0, ⟨true, false, true, false, false, false, true, true, false, false, []⟩),
 (op1 22 (.fieldAddr 31 (.tmp 21) 0) 0, ⟨true, false, true, false, false, false, true, true, false, false, []⟩),
 (ld 23 28 22 28, ⟨true, false, true, false, false, false, true, true, false, false, []⟩),
 (len1 24 23 28 3, ⟨true, false, true, false, false, false, true, true, false, false, []⟩),
 (bop 25 .rem 3 19 24 3 3, ⟨true, false, true, false, false, false, true, true, false, false, []⟩),
 (ixa 26 28 15 25 0, ⟨true, false, true, false, false, false, true, true, false, false, []⟩),
 (ld 27 3 26 3, ⟨true, false, true, false, false, false, true, true, false, false, []⟩),
 (mv 28 0 29, ⟨true, false, true, false, false, false, true, true, false, false, []⟩),
 (op1 29 (.nilCheck (.tmp 28)) 0, ⟨true, false, true, false, false, false, true, true, false, false, []⟩),
 (op1 30 (.fieldAddr 31 (.tmp 29) 1) 0, ⟨true, false, true, false, false, false, true, true, false, false, []⟩),
 (ld 31 3 30 3, ⟨true, false, true, false, false, false, true, true, false, false, []⟩),
 (mv 32 0 29, ⟨true, false, true, false, false, false, true, true, false, false, []⟩),
 (op1 33 (.nilCheck (.tmp 32)) 0, ⟨true, false, true, false, false, false, true, true, false, false, []⟩),
 (op1 34 (.fieldAddr 31 (.tmp 33) 0) 0, ⟨true, false, true, false, false, false, true, true, false, false, []⟩),
 (ld 35 28 34 28, ⟨true, false, true, false, false, false, true, true, false, false, []⟩),
 (len1 36 35 28 3, ⟨true, false, true, false, false, false, true, true, false, false, []⟩),
 (bop 37 .quo 3 31 36 3 3, ⟨true, false, true, false, false, false, true, true, false, false, []⟩),
 (op1 38 (.binOp .add 3 (.const (.int .i64 1)) (.tmp 37) 3) 3, ⟨true, false, true, false, false, false, true, true, false, false, []⟩),
 (bop 39 .quo 3 27 38 3 3, ⟨true, false, true, false, false, false, true, true, false, false, []⟩),
 (mv 40 0 29, ⟨true, false, true, false, false, false, true, true, false, false, []⟩),
 (op1 41 (.nilCheck (.tmp 40)) 0, ⟨true, false, true, false, false, false, true, true, false, false, []⟩),
 (op1 42 (.fieldAddr 31 (.tmp 41) 1) 0, ⟨true, false, true, false, false, false, true, true, false, false, []⟩),
 (ld 43 3 42 3, ⟨true, false, true, false, false, false, true, true, false, false, []⟩),
 (mv 44 0 29, ⟨true, false, true, false, false, false, true, true, false, false, []⟩),
 (op1 45 (.nilCheck (.tmp 44)) 0, ⟨true, false, true, false, false, false, true, true, false, false, []⟩),
 (op1 46 (.fieldAddr 31 (.tmp 45) 0) 0, ⟨true, false, true, false, true, false, true, true, false, false, []⟩),
 (ld 47 28 46 28, ⟨true, false, true, false, true, false, true, true, false, false, []⟩),
 (len1 48 47 28 3, ⟨true, false, true, false, true, false, true, true, false, false, []⟩),
 (bop 49 .quo 3 43 48 3 3, ⟨true, false, true, false, true, false, true, true, false, false, []⟩),
 (bop 50 .add 3 39 49 3 3, ⟨true, false, true, false, true, false, true, true, false, false, []⟩),
 (asn 5 50 3, ⟨true, true, true, false, true, false, true, true, false, false, []⟩)]
def c16_14 : Code := .seq (codeN b16 47) .ret
def c16_12 : Code := .seq (codeN b16 23) c16_14
def c16_10 : Code := .seq c16_11 c16_12
def c16_2 : Code := .seq c16_3 c16_10
def c16_0 : Code := .seq (codeN b16 2) c16_2
theorem E16 : evK gS fi16 c16_6 fr st k = opsR gS fi16 [op1 4 (.assign (.const (.int .i64 0))) 3] fr st (.seq .ret k) ∧
 evK gS fi16 c16_5 fr st k = condK gS fi16 (fr.op (.tmp 11)).bool? c16_6 .skip fr st k ∧
 (evK gS fi16 c16_3 fr st k = opsR gS fi16 [mv 6 0 29,
 op1 7 (.nilCheck (.tmp 6)) 0,
 op1 8 (.fieldAddr 31 (.tmp 7) 0) 0,
 ld 9 28 8 28,
 len1 10 9 28 3,
 op1 11 (.binOp .eql 3 (.tmp 10) (.const (.int .i64 0)) 3) 4] fr st (.seq c16_5 k)) ∧
 evK gS fi16 c16_11 fr st k = drwR gS fi16 r16_11 q16_11 fr st k ∧
 (evK gS fi16 c16_14 fr st k = opsR gS fi16 [mv 58 5 3,
 mv 59 1 3,
 cal 60 52 [(.tmp 58), (.tmp 59)] [3, 3] 3,
 asn 4 60 3] fr st (.seq .ret k)) ∧
 (evK gS fi16 c16_12 fr st k = opsR gS fi16 [mv 51 0 29,
 op1 52 (.nilCheck (.tmp 51)) 0,
 op1 53 (.fieldAddr 31 (.tmp 52) 1) 0,
 ld 54 3 53 3,
 op1 55 (.binOp .add 3 (.tmp 54) (.const (.int .i64 1)) 3) 3,
 op1 56 (.nilCheck (.tmp 51)) 0,
 op1 57 (.fieldAddr 31 (.tmp 56) 1) 0,
 sto 3 57 55] fr st (.seq c16_14 k)) ∧
 evK gS fi16 c16_10 fr st k = evK gS fi16 c16_11 fr st (.seq c16_12 k) ∧
 evK gS fi16 c16_2 fr st k = evK gS fi16 c16_3 fr st (.seq c16_10 k) ∧
 evK gS fi16 c16_0 fr st k = opsR gS fi16 [op1 4 (.assign (.const (.int .i64 0))) 3] fr st (.seq c16_2 k) := ⟨evK_rs 2 rfl (by kernel_rfl), rfl, evK_rs 1 rfl (by kernel_rfl), evK_dr 3 rfl (by kernel_rfl) (by kernel_rfl), evK_rs 5 rfl (by kernel_rfl), evK_rs 4 rfl (by kernel_rfl), rfl, rfl, evK_rs 0 rfl (by kernel_rfl)⟩
theorem m16 : mini fi16.body = c16_0 := by kernel_rfl
set_option maxHeartbeats 8000000 in
theorem c16 (l : List Int) (a id : Nat) (n : Int) (st : St) (h : FeedAt st id l a) (ha : a < 1099511627776) (hn : n ≤ 4611686018427387904) :
    EvF gS 16 [.ptr id 0, .int .i64 n] st = some (.ret (.int .i64 (nextV l a n)) none, setF st id l (nextA l a)) := by
  refine EvF_start fi16_eq (fun x h => by cases h) m16 ?_
  rw [st16]
  have hm : fi16.marks = [] := rfl
  have hl : fi16.locals = [] := rfl
  have hr : fi16.results = [.tmp 4] := rfl
  have ho := h.1
  have hwp : ¬ id < st.wp := by have := h.2; omega
  have hwp2 : st.wp ≤ id := h.2
  have hid := h.lt
  by_cases hne : l = []
  · subst hne
    have hs : setF st id [] a = st := setF_same h
    simp [nextV, nextA, hs, ho, -Int.not_le, -Int.not_lt, -Nat.not_le, -Nat.not_lt, ty3, ty4, ty28, ty29, ty31, hm, hl, hr, k52, x52, fi52_eq, p52, E16, q16_11]
  · have hlen : 0 < l.length := by cases l with | nil => exact (hne rfl).elim | cons _ _ => simp
    have e0 : ¬ (l.length : Int) = 0 := by omega
    have e1 : ((a : Nat) : Int).tmod (l.length : Int) = ((a % l.length : Nat) : Int) := by rw [Int.tmod_eq_emod_of_nonneg (by omega)]; omega
    have e2 : ((a : Nat) : Int).tdiv (l.length : Int) = ((a / l.length : Nat) : Int) := by rw [Int.tdiv_eq_ediv_of_nonneg (by omega)]; omega
    have e3 := Nat.mod_lt a hlen
    have e4 : a / l.length ≤ a := Nat.div_le_self _ _
    have hx : l[a % l.length]? = some (l.getD (a % l.length) 0) := by
      rw [List.getElem?_eq_getElem e3, List.getD_eq_getElem?_getD, List.getElem?_eq_getElem e3]; rfl
    have ea : IntKind.wrap .i64 ((a : Int) + 1) = (a : Int) + 1 := wrap64 (by omega) (by omega)
    have hxe : l[a % l.length]'e3 = l.getD (a % l.length) 0 := by rw [List.getElem?_eq_getElem e3] at hx; exact Option.some.inj hx
    simp only [nextV, nextA, hne, if_false, rawAt]
    generalize l.getD (a % l.length) 0 = x at *
    generalize a % l.length = rr at *
    generalize a / l.length = qq at *
    have e5 : IntKind.wrap .i64 (qq : Int) = (qq : Int) := wrap64 (by omega) (by omega)
    have e6 : IntKind.wrap .i64 (1 + (qq : Int)) = 1 + (qq : Int) := wrap64 (by omega) (by omega)
    have e7 : ¬ (1 + (qq : Int)) = 0 := by omega
    simp [-Int.natCast_emod, -Int.natCast_ediv, setF, ho, hne, e0, e1, e2, e3, e5, e6, e7, hx, hxe, ea, hn, hwp, hwp2, -Int.not_le, -Int.not_lt, -Nat.not_le, -Nat.not_lt, ty3, ty4, ty28, ty29, ty31, hm, hl, hr, k52, x52, fi52_eq, p52, E16, q16_11]
theorem k16 (l : List Int) (a j id : Nat) (n : Int) (fr : Fr) (st : St) (h : FeedOk st id) (ha : a < 549755813888) (hj : j < 549755813888) (hn : n ≤ 4611686018427387904) :
    callStep gS (EvF gS) 16 [.ptr id 0, .int .i64 n] fr (setF st id l (nA l a j)) = some (.ok (.val (.int .i64 (fd l a j n))) (fr.map E.noMem) (setF st id l (nA l a (j + 1)))) := by
  have hc := c16 l (nA l a j) id n (setF st id l (nA l a j)) (feed_at h l _) (by have := nA_le l a j; omega) hn
  rw [setF_setF, nA_next] at hc
  unfold callStep
  simp only [show gS.ext 16 = none from rfl, fi16_eq, show fi16.pure = false from rfl, Bool.false_eq_true, if_false, hc, retE]
  rfl
end
end Go.Proofs.Ytclpbfkbpcjejaa
namespace Go.Proofs.Ytclpbfkbpcjejaa
open Go Go.Ab
set_option linter.unusedVariables false
set_option linter.unusedSimpArgs false
set_option linter.unnecessarySimpa false
set_option maxRecDepth 20000
noncomputable section
variable (fr : Fr) (st : St) (k : Kt)
theorem kCopy (fr : Fr) (st : St) : callStep gS (EvF gS) 100 [.float .f64 0, .float .f64 13830554455654793216] fr st = some (.ok (.val (.float .f64 9223372036854775808)) fr st) := by
  have hc : EvF gS 100 [.float .f64 0, .float .f64 13830554455654793216] ⟨[], 0⟩ = some (.ret (.float .f64 9223372036854775808) none, ⟨[], 0⟩) := Evn.lim ⟨12, fun n hn => by
    obtain ⟨m, rfl⟩ : ∃ m, n = m + 12 := ⟨n - 12, by omega⟩
    kernel_rfl⟩
  obtain ⟨fi, hf, hp⟩ : ∃ fi, gS.fn 100 = some fi ∧ fi.pure = true := by
    refine ⟨(gS.fn 100).getD ⟨.skip, 0, [], [], [], false, []⟩, by kernel_rfl, by kernel_rfl⟩
  unfold callStep
  simp only [show gS.ext 100 = none from rfl, hf, hp, if_true, show flats [.float .f64 0, .float .f64 13830554455654793216] = true from by simp, hc, show V.flat (.float .f64 9223372036854775808) = true from rfl]
  rfl
theorem kNaN (fr : Fr) (st : St) : callStep gS (EvF gS) 101 [] fr st = some (.ok (.val (.float .f64 9221120237041090561)) fr st) := by
  have hc : EvF gS 101 [] ⟨[], 0⟩ = some (.ret (.float .f64 9221120237041090561) none, ⟨[], 0⟩) := Evn.lim ⟨12, fun n hn => by
    obtain ⟨m, rfl⟩ : ∃ m, n = m + 12 := ⟨n - 12, by omega⟩
    kernel_rfl⟩
  obtain ⟨fi, hf, hp⟩ : ∃ fi, gS.fn 101 = some fi ∧ fi.pure = true := by
    refine ⟨(gS.fn 101).getD ⟨.skip, 0, [], [], [], false, []⟩, by kernel_rfl, by kernel_rfl⟩
  unfold callStep
  simp only [show gS.ext 101 = none from rfl, hf, hp, if_true, show flats [] = true from by simp, hc, show V.flat (.float .f64 9221120237041090561) = true from rfl]
  rfl
theorem kInf (fr : Fr) (st : St) : callStep gS (EvF gS) 102 [.int .i64 1] fr st = some (.ok (.val (.float .f64 9218868437227405312)) fr st) := by
  have hc : EvF gS 102 [.int .i64 1] ⟨[], 0⟩ = some (.ret (.float .f64 9218868437227405312) none, ⟨[], 0⟩) := Evn.lim ⟨12, fun n hn => by
    obtain ⟨m, rfl⟩ : ∃ m, n = m + 12 := ⟨n - 12, by omega⟩
    kernel_rfl⟩
  obtain ⟨fi, hf, hp⟩ : ∃ fi, gS.fn 102 = some fi ∧ fi.pure = true := by
    refine ⟨(gS.fn 102).getD ⟨.skip, 0, [], [], [], false, []⟩, by kernel_rfl, by kernel_rfl⟩
  unfold callStep
  simp only [show gS.ext 102 = none from rfl, hf, hp, if_true, show flats [.int .i64 1] = true from by simp, hc, show V.flat (.float .f64 9218868437227405312) = true from rfl]
  rfl
theorem kInf2 (fr : Fr) (st : St) : callStep gS (EvF gS) 102 [.int .i64 (-1)] fr st = some (.ok (.val (.float .f64 18442240474082181120)) fr st) := by
  have hc : EvF gS 102 [.int .i64 (-1)] ⟨[], 0⟩ = some (.ret (.float .f64 18442240474082181120) none, ⟨[], 0⟩) := Evn.lim ⟨12, fun n hn => by
    obtain ⟨m, rfl⟩ : ∃ m, n = m + 12 := ⟨n - 12, by omega⟩
    kernel_rfl⟩
  obtain ⟨fi, hf, hp⟩ : ∃ fi, gS.fn 102 = some fi ∧ fi.pure = true := by
    refine ⟨(gS.fn 102).getD ⟨.skip, 0, [], [], [], false, []⟩, by kernel_rfl, by kernel_rfl⟩
  unfold callStep
  simp only [show gS.ext 102 = none from rfl, hf, hp, if_true, show flats [.int .i64 (-1)] = true from by simp, hc, show V.flat (.float .f64 18442240474082181120) = true from rfl]
  rfl
def fi66 : FI := { body := codeOf Try.f66, ntmps := 13, results := [.tmp 2], pers := [0, 2, 3], locals := [3], pure := false, marks := [] }
theorem fi66_eq : gS.fn 66 = some fi66 := by kernel_rfl
theorem st66 (a0 : V) : startFr fi66 [a0] = { ps := [(0, .val a0), (2, .any), (3, .any)], ts := [], lc := [] } := rfl
def b66 : Code := mini (codeOf Try.f66)
def c66_4 : Code := .seq (codeN b66 11) .ret
theorem e66_4 : evK gS fi66 c66_4 fr st k = opsR gS fi66 [mv 9 0 29,
 cal 10 16 [(.tmp 9), (.const (.int .i64 14))] [29, 3] 3,
 ixa 11 117 3 10 0,
 ld 12 22 11 22,
 asn 2 12 22] fr st (.seq .ret k) := evK_rs 2 rfl (by kernel_rfl)
def c66_2 : Code := .seq (codeN b66 5) c66_4
theorem e66_2 : evK gS fi66 c66_2 fr st k = opsR gS fi66 [cal 4 100 [(.const (.float .f64 0)), (.const (.float .f64 13830554455654793216))] [22, 22] 22,
 cal 5 101 [] [] 22,
 cal 6 102 [(.const (.int .i64 1))] [3] 22,
 cal 7 102 [(.const (.int .i64 (-1)))] [3] 22,
 op1 8 (.build 117 #[(0, (.const (.float .f64 0))), (1, (.tmp 4)), (2, (.const (.float .f64 4607182418800017408))), (3, (.const (.float .f64 4609434218613702656))), (4, (.const (.float .f64 4611686018427387904))), (5, (.const (.float .f64 4613937818241073152))), (6, (.const (.float .f64 13830554455654793216))), (7, (.const (.float .f64 4591870180066957722))), (8, (.tmp 5)), (9, (.tmp 6)), (10, (.tmp 7)), (11, (.const (.float .f64 4845873199050653696))), (12, (.const (.float .f64 4890909195324358656))), (13, (.const (.float .f64 1)))]) 117,
 op1 3 (.alloc 117) 0,
 sto 117 3 8] fr st (.seq c66_4 k) := evK_rs 1 rfl (by kernel_rfl)
def c66_0 : Code := .seq (codeN b66 2) c66_2
theorem e66_0 : evK gS fi66 c66_0 fr st k = opsR gS fi66 [op1 2 (.assign (.const (.float .f64 0))) 22] fr st (.seq c66_2 k) := evK_rs 0 rfl (by kernel_rfl)
theorem m66 : mini fi66.body = c66_0 := by kernel_rfl
set_option maxHeartbeats 8000000 in
theorem c66 (l : List Int) (a j id : Nat) (st : St) (h : FeedOk st id) (ha : a < 549755813888) (hj : j < 549755813888) :
    EvF gS 66 [.ptr id 0] (setF st id l (nA l a j)) = some (.ret (.float .f64 (floatV l a j)) none, setF st id l (nA l a (j + 1))) := by
  refine EvF_start fi66_eq (fun x h => by cases h) m66 ?_
  rw [st66]
  have hm : fi66.marks = [] := rfl
  have hl : fi66.locals = [3] := rfl
  have hr : fi66.results = [.tmp 2] := rfl
  have hb := fd_bound l a j (n := 14) (by omega)
  unfold floatV
  have hk := fun fr => k16 l a j id 14 fr st h ha hj (by omega)
  generalize fd l a j 14 = z at *
  have hz : z = 0 ∨ z = 1 ∨ z = 2 ∨ z = 3 ∨ z = 4 ∨ z = 5 ∨ z = 6 ∨ z = 7 ∨ z = 8 ∨ z = 9 ∨ z = 10 ∨ z = 11 ∨ z = 12 ∨ z = 13 := by omega
  rcases hz with rfl | rfl | rfl | rfl | rfl | rfl | rfl | rfl | rfl | rfl | rfl | rfl | rfl | rfl <;>
    simp [F14, hk, -Int.not_le, -Int.not_lt, -Nat.not_le, -Nat.not_lt, ty3, ty22, ty29, ty117, hm, hl, hr, kCopy, kNaN, kInf, kInf2, e66_4, e66_2, e66_0]
theorem k66 (l : List Int) (a j id : Nat) (fr : Fr) (st : St) (h : FeedOk st id) (ha : a < 549755813888) (hj : j < 549755813000) :
    callStep gS (EvF gS) 66 [.ptr id 0] fr (setF st id l (nA l a j)) = some (.ok (.val (.float .f64 (floatV l a j))) (fr.map E.noMem) (setF st id l (nA l a (j + 1)))) := by
  unfold callStep
  simp only [show gS.ext 66 = none from rfl, fi66_eq, show fi66.pure = false from rfl, Bool.false_eq_true, if_false, c66 l a j id st h ha (by omega), retE]
  all_goals rfl
def fi17 : FI := { body := codeOf Try.f17, ntmps := 38, results := [.cell 2 24], pers := [0, 2, 3, 4, 6, 7], locals := [2, 3, 4], pure := false, marks := [] }
theorem fi17_eq : gS.fn 17 = some fi17 := by kernel_rfl
theorem st17 (a0 : V) : startFr fi17 [a0] = { ps := [(0, .val a0), (2, .any), (3, .any), (4, .any), (6, .any), (7, .any)], ts := [], lc := [] } := rfl
def b17 : Code := mini (codeOf Try.f17)
def c17_11 : Code := codeN b17 229
def c17_9 : Code := .cond (.tmp 7) .skip c17_11
def c17_7 : Code := .seq (codeN b17 69) c17_9
def c17_13 : Code := .seq (codeN b17 149) .ret
def c17_21 : Code := .seq (codeN b17 1397) .ret
def c17_19 : Code := .seq (codeN b17 629) c17_21
def c17_27 : Code := .seq (codeN b17 2549) .ret
def c17_35 : Code := .seq (codeN b17 22517) .ret
def c17_33 : Code := .seq (codeN b17 10229) c17_35
def c17_32 : Code := .cond (.tmp 27) c17_33 .skip
def c17_30 : Code := .seq (codeN b17 3061) c17_32
def c17_26 : Code := .cond (.tmp 21) c17_27 c17_30
def c17_24 : Code := .seq (codeN b17 757) c17_26
def c17_18 : Code := .cond (.tmp 13) c17_19 c17_24
def c17_16 : Code := .seq (codeN b17 181) c17_18
def c17_12 : Code := .cond (.tmp 7) c17_13 c17_16
def c17_6 : Code := .seq c17_7 c17_12
def c17_5 : Code := .block 0 c17_6
def c17_3 : Code := .seq (codeN b17 9) c17_5
def c17_39 : Code := .seq (codeN b17 11) .ret
def c17_2 : Code := .seq c17_3 c17_39
def c17_0 : Code := .seq (codeN b17 2) c17_2
theorem E17 : (evK gS fi17 c17_11 fr st k = opsR gS fi17 [op1 9 (.binOp .eql 3 (.tmp 6) (.const (.int .i64 1)) 3) 4,
 asn 7 9 4] fr st k) ∧
 evK gS fi17 c17_9 fr st k = condK gS fi17 (fr.op (.tmp 7)).bool? .skip c17_11 fr st k ∧
 (evK gS fi17 c17_7 fr st k = opsR gS fi17 [op1 8 (.binOp .eql 3 (.tmp 6) (.const (.int .i64 0)) 3) 4,
 asn 7 8 4] fr st (.seq c17_9 k)) ∧
 (evK gS fi17 c17_13 fr st k = opsR gS fi17 [mv 10 0 29,
 cal 11 66 [(.tmp 10)] [29] 22,
 op1 12 (.build 24 #[(0, (.const (.int .i64 2))), (2, (.tmp 11))]) 24,
 sto 24 2 12] fr st (.seq .ret k)) ∧
 (evK gS fi17 c17_21 fr st k = opsR gS fi17 [mv 16 0 29,
 cal 17 16 [(.tmp 16), (.const (.int .i64 6))] [29, 3] 3,
 ixa 18 89 3 17 0,
 ld 19 9 18 9,
 op1 20 (.build 24 #[(0, (.const (.int .i64 3))), (3, (.tmp 19))]) 24,
 sto 24 2 20] fr st (.seq .ret k)) ∧
 (evK gS fi17 c17_19 fr st k = opsR gS fi17 [op1 15 (.build 89 #[(0, (.const (.string { data := #[] }))), (1, (.const (.string { data := #[97] }))), (2, (.const (.string { data := #[97, 98] }))), (3, (.const (.string { data := #[98] }))), (4, (.const (.string { data := #[98, 97] }))), (5, (.const (.string { data := #[116, 119, 101, 108, 118, 101, 32, 98, 121, 116, 101, 115] })))]) 89,
 op1 3 (.alloc 89) 0,
 sto 89 3 15] fr st (.seq c17_21 k)) ∧
 (evK gS fi17 c17_27 fr st k = opsR gS fi17 [mv 23 0 29,
 cal 24 16 [(.tmp 23), (.const (.int .i64 2))] [29, 3] 3,
 op1 25 (.binOp .eql 3 (.tmp 24) (.const (.int .i64 1)) 3) 4,
 op1 26 (.build 24 #[(0, (.const (.int .i64 4))), (4, (.tmp 25))]) 24,
 sto 24 2 26] fr st (.seq .ret k)) ∧
 (evK gS fi17 c17_35 fr st k = opsR gS fi17 [mv 30 0 29,
 cal 31 16 [(.tmp 30), (.const (.int .i64 6))] [29, 3] 3,
 ixa 32 90 4 31 0,
 ld 33 2 32 2,
 op1 34 (.build 24 #[(0, (.const (.int .i64 1))), (1, (.tmp 33))]) 24,
 sto 24 2 34] fr st (.seq .ret k)) ∧
 (evK gS fi17 c17_33 fr st k = opsR gS fi17 [op1 29 (.build 90 #[(0, (.const (.int .i64 (-9223372036854775808)))), (1, (.const (.int .i64 9223372036854775807))), (2, (.const (.int .i64 9007199254740992))), (3, (.const (.int .i64 9007199254740993))), (4, (.const (.int .i64 (-1)))), (5, (.const (.int .i64 4611686018427387904)))]) 90,
 op1 4 (.alloc 90) 0,
 sto 90 4 29] fr st (.seq c17_35 k)) ∧
 evK gS fi17 c17_32 fr st k = condK gS fi17 (fr.op (.tmp 27)).bool? c17_33 .skip fr st k ∧
 (evK gS fi17 c17_30 fr st k = opsR gS fi17 [op1 28 (.binOp .eql 3 (.tmp 6) (.const (.int .i64 4)) 3) 4,
 asn 27 28 4] fr st (.seq c17_32 k)) ∧
 evK gS fi17 c17_26 fr st k = condK gS fi17 (fr.op (.tmp 21)).bool? c17_27 c17_30 fr st k ∧
 (evK gS fi17 c17_24 fr st k = opsR gS fi17 [op1 22 (.binOp .eql 3 (.tmp 6) (.const (.int .i64 3)) 3) 4,
 asn 21 22 4] fr st (.seq c17_26 k)) ∧
 evK gS fi17 c17_18 fr st k = condK gS fi17 (fr.op (.tmp 13)).bool? c17_19 c17_24 fr st k ∧
 (evK gS fi17 c17_16 fr st k = opsR gS fi17 [op1 14 (.binOp .eql 3 (.tmp 6) (.const (.int .i64 2)) 3) 4,
 asn 13 14 4] fr st (.seq c17_18 k)) ∧
 evK gS fi17 c17_12 fr st k = condK gS fi17 (fr.op (.tmp 7)).bool? c17_13 c17_16 fr st k ∧
 evK gS fi17 c17_6 fr st k = evK gS fi17 c17_7 fr st (.seq c17_12 k) ∧
 evK gS fi17 c17_5 fr st k = evK gS fi17 c17_6 fr st (.blk 0 k) ∧
 (evK gS fi17 c17_3 fr st k = opsR gS fi17 [mv 5 0 29,
 cal 6 16 [(.tmp 5), (.const (.int .i64 8))] [29, 3] 3] fr st (.seq c17_5 k)) ∧
 (evK gS fi17 c17_39 fr st k = opsR gS fi17 [mv 35 0 29,
 cal 36 16 [(.tmp 35), (.const (.int .i64 5))] [29, 3] 3,
 op1 37 (.build 24 #[(0, (.const (.int .i64 1))), (1, (.tmp 36))]) 24,
 sto 24 2 37] fr st (.seq .ret k)) ∧
 evK gS fi17 c17_2 fr st k = evK gS fi17 c17_3 fr st (.seq c17_39 k) ∧
 evK gS fi17 c17_0 fr st k = opsR gS fi17 [op1 2 (.alloc 24) 0] fr st (.seq c17_2 k) := ⟨evK_r 3 (by kernel_rfl), rfl, evK_rs 2 rfl (by kernel_rfl), evK_rs 4 rfl (by kernel_rfl), evK_rs 7 rfl (by kernel_rfl), evK_rs 6 rfl (by kernel_rfl), evK_rs 9 rfl (by kernel_rfl), evK_rs 12 rfl (by kernel_rfl), evK_rs 11 rfl (by kernel_rfl), rfl, evK_rs 10 rfl (by kernel_rfl), rfl, evK_rs 8 rfl (by kernel_rfl), rfl, evK_rs 5 rfl (by kernel_rfl), rfl, rfl, rfl, evK_rs 1 rfl (by kernel_rfl), evK_rs 13 rfl (by kernel_rfl), rfl, evK_rs 0 rfl (by kernel_rfl)⟩
theorem m17 : mini fi17.body = c17_0 := by kernel_rfl
set_option maxHeartbeats 8000000 in
theorem c17 (l : List Int) (a j id : Nat) (st : St) (h : FeedOk st id) (ha : a < 549755813888) (hj : j < 549755812000) :
    EvF gS 17 [.ptr id 0] (setF st id l (nA l a j)) = some (.ret (valueV l a j).enc none, setF st id l (nA l a (j + 2))) := by
  refine EvF_start fi17_eq (fun x h => by cases h) m17 ?_
  rw [st17]
  have hm : fi17.marks = [] := rfl
  have hl : fi17.locals = [2, 3, 4] := rfl
  have hr : fi17.results = [.cell 2 24] := rfl
  have hb := fd_bound l a j (n := 8) (by omega)
  have hb6 := fd_bound l a (j + 1) (n := 6) (by omega)
  unfold valueV
  have hk := fun fr => k16 l a j id 8 fr st h ha (by omega) (by omega)
  have hk6 := fun fr => k16 l a (j + 1) id 6 fr st h ha (by omega) (by omega)
  have hk2 := fun fr => k16 l a (j + 1) id 2 fr st h ha (by omega) (by omega)
  have hk5 := fun fr => k16 l a (j + 1) id 5 fr st h ha (by omega) (by omega)
  have hf1 := fun fr => k66 l a (j + 1) id fr st h ha (by omega)
  generalize fd l a j 8 = z at *
  generalize fd l a (j + 1) 6 = y at *
  have hz : z = 0 ∨ z = 1 ∨ z = 2 ∨ z = 3 ∨ z = 4 ∨ z = 5 ∨ z = 6 ∨ z = 7 := by omega
  have hy : y = 0 ∨ y = 1 ∨ y = 2 ∨ y = 3 ∨ y = 4 ∨ y = 5 := by omega
  rcases hz with rfl | rfl | rfl | rfl | rfl | rfl | rfl | rfl
  case inr.inr.inl => rcases hy with rfl | rfl | rfl | rfl | rfl | rfl <;> simp [T6, hk, hk6, hk2, hk5, hf1, -Int.not_le, -Int.not_lt, -Nat.not_le, -Nat.not_lt, ty2, ty3, ty4, ty9, ty22, ty24, ty29, ty89, ty90, eq24, hm, hl, hr, E17]
  case inr.inr.inr.inr.inl => rcases hy with rfl | rfl | rfl | rfl | rfl | rfl <;> simp [N6, hk, hk6, hk2, hk5, hf1, -Int.not_le, -Int.not_lt, -Nat.not_le, -Nat.not_lt, ty2, ty3, ty4, ty9, ty22, ty24, ty29, ty89, ty90, eq24, hm, hl, hr, E17]
  all_goals simp [hk, hk6, hk2, hk5, hf1, -Int.not_le, -Int.not_lt, -Nat.not_le, -Nat.not_lt, ty2, ty3, ty4, ty9, ty22, ty24, ty29, ty89, ty90, eq24, hm, hl, hr, E17]
end
end Go.Proofs.Ytclpbfkbpcjejaa
namespace Go.Ab
open Go
set_option linter.unusedVariables false
set_option linter.unusedSimpArgs false
set_option linter.unnecessarySimpa false
/-- So many objects more that are given up. -/
def dd (st : St) (m : Nat) : St := { st with objs := st.objs ++ List.replicate m [] }
/-- And one behind them. -/
def nw (st : St) (m : Nat) (cs : List V) : St := { st with objs := st.objs ++ (List.replicate m [] ++ [cs]) }
theorem dd_zero (st : St) : dd st 0 = st := by unfold dd; simp
theorem dd_len (st : St) (m : Nat) : (dd st m).objs.length = st.objs.length + m := by simp [dd]
theorem gr_len (st : St) (m : Nat) (cs : List V) : (nw st m cs).objs.length = st.objs.length + m + 1 := by simp [nw]; omega
theorem setF_len (st : St) (id : Nat) (l : List Int) (a : Nat) : (setF st id l a).objs.length = st.objs.length := by simp [setF]
theorem setF_wp (st : St) (id : Nat) (l : List Int) (a : Nat) : (setF st id l a).wp = st.wp := rfl
theorem dd_wp (st : St) (m : Nat) : (dd st m).wp = st.wp := rfl
theorem gr_wp (st : St) (m : Nat) (cs : List V) : (nw st m cs).wp = st.wp := rfl
theorem FeedOk.dd {st : St} {id : Nat} (h : FeedOk st id) (m : Nat) : FeedOk (dd st m) id := ⟨by rw [dd_len]; have := h.1; omega, h.2⟩
theorem FeedOk.nw {st : St} {id : Nat} (h : FeedOk st id) (m : Nat) (cs : List V) : FeedOk (nw st m cs) id := ⟨by rw [gr_len]; have := h.1; omega, h.2⟩
theorem FeedOk.setF {st : St} {id id' : Nat} (h : FeedOk st id) (l : List Int) (a : Nat) : FeedOk (setF st id' l a) id := ⟨by rw [setF_len]; exact h.1, h.2⟩
theorem dd_dd (st : St) (m n : Nat) : dd (dd st m) n = dd st (m + n) := by unfold dd; simp [List.append_assoc, List.replicate_append_replicate]
theorem nw_dd (st : St) (m n : Nat) (cs : List V) : nw (dd st m) n cs = nw st (m + n) cs := by unfold nw dd; simp only [List.append_assoc]; rw [← List.append_assoc (List.replicate m []), List.replicate_append_replicate]
theorem setF_dd {st : St} {id : Nat} (h : FeedOk st id) (m : Nat) (l : List Int) (a : Nat) : dd (setF st id l a) m = setF (dd st m) id l a := by
  unfold dd setF; simp only [St.mk.injEq, and_true]; rw [List.set_append_left _ _ h.1]
theorem setF_gr {st : St} {id : Nat} (h : FeedOk st id) (m : Nat) (cs : List V) (l : List Int) (a : Nat) : nw (setF st id l a) m cs = setF (nw st m cs) id l a := by
  unfold nw setF; simp only [St.mk.injEq, and_true]; rw [List.set_append_left _ _ h.1]
theorem gr_obj (st : St) (m : Nat) (cs : List V) : (nw st m cs).objs[st.objs.length + m]? = some cs := by
  simp [nw]
theorem obj_gr {st : St} {id : Nat} (h : FeedOk st id) (m : Nat) (cs : List V) (l : List Int) (a : Nat) : St.obj (setF (nw st m cs) id l a) (st.objs.length + m) = some cs := by
  unfold St.obj setF
  show ((nw st m cs).objs.set id _)[_]? = _
  rw [List.getElem?_set_ne (by have := h.1; omega), gr_obj]
theorem set_gr {st : St} {id : Nat} (h : FeedOk st id) (m : Nat) (cs : List V) (l : List Int) (a : Nat) : St.set (setF (nw st m cs) id l a) (st.objs.length + m) [] = some (setF (dd st (m + 1)) id l a) := by
  have h1 := h.1
  have h2 := h.2
  unfold St.set
  rw [if_pos (by rw [setF_wp, gr_wp]; omega)]
  rw [← setF_gr h, ← setF_dd h]
  unfold nw dd
  simp only [Option.some.injEq, St.mk.injEq, and_true]
  rw [List.set_append_right _ _ (by rw [setF_len]; omega), setF_len, show st.objs.length + m - st.objs.length = m by omega, List.set_append_right _ _ (by simp), List.replicate_succ', List.length_replicate, Nat.sub_self]
  rfl
theorem set_gr' {st : St} {id : Nat} (h : FeedOk st id) (m : Nat) (cs cs' : List V) (l : List Int) (a : Nat) : St.set (setF (nw st m cs) id l a) (st.objs.length + m) cs' = some (setF (nw st m cs') id l a) := by
  have h1 := h.1
  have h2 := h.2
  unfold St.set
  rw [if_pos (by rw [setF_wp, gr_wp]; omega)]
  rw [← setF_gr h, ← setF_gr h]
  unfold nw
  simp only [Option.some.injEq, St.mk.injEq, and_true]
  rw [List.set_append_right _ _ (by rw [setF_len]; omega), setF_len, show st.objs.length + m - st.objs.length = m by omega, List.set_append_right _ _ (by simp), List.length_replicate, Nat.sub_self]
  rfl
theorem newRef_dd {st : St} {id : Nat} (h : FeedOk st id) (fr : Fr) (m k len : Nat) (cs : List V) (l : List Int) (a : Nat) :
    newRef fr (setF (dd st m) id l a) k len cs = .ok (.val (.sref false k (st.objs.length + m) 0 len)) fr (setF (nw st m cs) id l a) := by
  unfold newRef
  rw [setF_len, dd_len, ← setF_dd h, ← setF_gr h]
  unfold nw dd
  simp
theorem newRef_setF {st : St} {id : Nat} (h : FeedOk st id) (fr : Fr) (k len : Nat) (cs : List V) (l : List Int) (a : Nat) :
    newRef fr (setF st id l a) k len cs = .ok (.val (.sref false k st.objs.length 0 len)) fr (setF (nw st 0 cs) id l a) := by
  have := newRef_dd h fr 0 k len cs l a
  rw [dd_zero] at this
  exact this
mutual
theorem frz_flat : ∀ (n : Nat) (st : St) (v : V), v.flat = true → frz n st v = some (v, st)
  | 0, _, _, _ => by unfold frz; rfl
  | n + 1, st, v, h => by
    unfold frz
    split
    · simp [V.flat] at h
    · rw [frzL_flat n st _ (by simpa [V.flat] using h)]
    · rw [frzL_flat n st _ (by simpa [V.flat] using h)]
    · rfl
    · rw [if_pos (by simpa [V.flat] using h)]
    · rfl
theorem frzL_flat : ∀ (n : Nat) (st : St) (l : List V), flats l = true → frzL (frz n) st l = some (l, st)
  | _, _, [], _ => rfl
  | n, st, v :: r, h => by
    simp only [flats, Bool.and_eq_true] at h
    unfold frzL
    rw [frz_flat n st v h.1]
    simp only
    rw [frzL_flat n st r h.2]
end
theorem frzL_cons {f : St → V → Option (V × St)} {st st' : St} {v v' : V} {r : List V} (h : f st v = some (v', st')) : frzL f st (v :: r) = match frzL f st' r with
      | some (r', st'') => some (v' :: r', st'')
      | none => none := by
  simp only [frzL, h]
  cases frzL f st' r with
  | none => rfl
  | some x => rfl
theorem frzL_append {f : St → V → Option (V × St)} {st st' st'' : St} : ∀ {xs xs' ys ys' : List V}, frzL f st xs = some (xs', st') → frzL f st' ys = some (ys', st'') → frzL f st (xs ++ ys) = some (xs' ++ ys', st'')
  | [], _, _, _, h, k => by unfold frzL at h; cases h; exact k
  | v :: r, _, ys, ys', h, k => by
    unfold frzL at h
    split at h
    · rename_i v' st1 h1
      split at h
      · rename_i r' st2 h2
        cases h
        rw [List.cons_append, frzL_cons h1, frzL_append h2 k]; rfl
      · cases h
    · cases h
theorem chunk_enc {α : Type} (cells : α → List V) (k : Nat) (hk : 0 < k) (hl : ∀ x, (cells x).length = k) : ∀ (vs : List α), chunk true k vs.length (vs.flatMap cells) = vs.map fun x => V.agg (cells x)
  | [] => rfl
  | x :: r => by
    rw [List.length_cons, chunk, List.flatMap_cons, List.take_left' (hl x), List.drop_left' (hl x), chunk_enc cells k hk hl r]; rfl
theorem vals_cells_len (vs : List Val) : (vs.flatMap Val.cells).length = vs.length * 5 := by
  induction vs with
  | nil => rfl
  | cons x r ih => simp [List.flatMap_cons, ih, Val.cells]; omega
theorem vals_cells_one (vs : List Val) : (vs.flatMap Val.cells).all V.one = true := by
  induction vs with
  | nil => rfl
  | cons x r ih => simp [List.flatMap_cons, ih, Val.cells, V.one]
theorem vals_cells_flat (vs : List Val) : flats (vs.flatMap Val.cells) = true := by
  induction vs with
  | nil => rfl
  | cons x r ih =>
    have : ∀ (a b : List V), flats a = true → flats b = true → flats (a ++ b) = true := by
      intro a
      induction a with
      | nil => intro b _ h; exact h
      | cons v a iha => intro b h1 h2; simp only [flats, List.cons_append, Bool.and_eq_true] at h1 ⊢; exact ⟨h1.1, iha b h1.2 h2⟩
    rw [List.flatMap_cons]
    exact this _ _ (by simp [Val.cells, flats, V.flat]) ih
theorem vals_cells_strip (vs : List Val) : (vs.flatMap Val.cells).map V.strip1 = vs.flatMap Val.cells := by
  induction vs with
  | nil => rfl
  | cons x r ih => simp [List.flatMap_cons, ih, Val.cells, V.strip1]
theorem chunk_vals (vs : List Val) : chunk true 5 vs.length (vs.flatMap Val.cells) = encVals vs := chunk_enc Val.cells 5 (by omega) (fun _ => rfl) vs
/-- A row of values is given up. -/
theorem frz_vals {st : St} {id : Nat} (h : FeedOk st id) (n m : Nat) (vs : List Val) (hv : vs ≠ []) (l : List Int) (a : Nat) :
    frz (n + 1) (setF (nw st m (vs.flatMap Val.cells)) id l a) (.sref false 5 (st.objs.length + m) 0 vs.length) = some (.slice (encVals vs), setF (dd st (m + 1)) id l a) := by
  have hl : ¬ vs.length = 0 := by simpa using hv
  unfold frz
  simp only [hl, if_false, obj_gr h, set_gr h, vals_cells_len, List.drop_zero, Nat.zero_add, Nat.le_refl, and_true, show (0 < 5) = True by simp, if_true]
  rw [List.take_of_length_le (by rw [vals_cells_len]; omega), vals_cells_strip, frzL_flat _ _ _ (vals_cells_flat vs)]
  simp only [vals_cells_len, vals_cells_one, and_self, if_true]
  rw [show Nat.blt 1 5 = true from rfl, chunk_vals]
theorem frz_predcells {st st' : St} {n : Nat} {a0 a1 a2 a3 a4 a5 a6 a7 a8 a9 a10 a11 s s' : V} (hf : flats [a0, a1, a2, a3, a4, a5, a6, a7, a8, a9, a10, a11] = true) (hs : frz n st s = some (s', st')) :
    frz (n + 1) st (.agg [a0, a1, a2, a3, a4, a5, a6, a7, a8, a9, a10, a11, s]) = some (.agg [a0, a1, a2, a3, a4, a5, a6, a7, a8, a9, a10, a11, s'], st') := by
  unfold frz
  have h1 := frzL_flat n st _ hf
  have h2 : frzL (frz n) st [s] = some ([s'], st') := by rw [frzL_cons hs]; rfl
  have := frzL_append h1 h2
  simp only [List.cons_append, List.nil_append] at this
  simp only [this]
theorem frz_nil (n : Nat) (st : St) : frz (n + 1) st (.sref true 0 0 0 0) = some (.slice [], st) := by unfold frz; rfl
theorem w64_1 : IntKind.wrap .i64 1 = 1 := by kernel_rfl
theorem w64_2 : IntKind.wrap .i64 2 = 2 := by kernel_rfl
theorem w64_3 : IntKind.wrap .i64 3 = 3 := by kernel_rfl
theorem w64_4 : IntKind.wrap .i64 4 = 4 := by kernel_rfl
theorem w64_5 : IntKind.wrap .i64 5 = 5 := by kernel_rfl
theorem w64_6 : IntKind.wrap .i64 6 = 6 := by kernel_rfl
theorem w64_7 : IntKind.wrap .i64 7 = 7 := by kernel_rfl
theorem w64_8 : IntKind.wrap .i64 8 = 8 := by kernel_rfl
theorem w64_9 : IntKind.wrap .i64 9 = 9 := by kernel_rfl
theorem w64_10 : IntKind.wrap .i64 10 = 10 := by kernel_rfl
end Go.Ab
namespace Go.Ab
open Go
set_option linter.unusedVariables false
set_option linter.unusedSimpArgs false
set_option linter.unnecessarySimpa false
def FVR : List (Val × Option (Int × Int)) := [
  (vzero, none),
  (⟨2, 0, 0, [], false⟩, some (1, 0)), (⟨2, 0, 9223372036854775808, [], false⟩, some (1, 0)), (⟨2, 0, 4607182418800017408, [], false⟩, some (1, 3)),
  (⟨2, 0, 4609434218613702656, [], false⟩, some (1, 4)), (⟨2, 0, 4611686018427387904, [], false⟩, some (1, 5)), (⟨2, 0, 4613937818241073152, [], false⟩, some (1, 6)),
  (⟨2, 0, 13830554455654793216, [], false⟩, some (1, -1)), (⟨2, 0, 4591870180066957722, [], false⟩, some (1, 2)), (⟨2, 0, 9221120237041090561, [], false⟩, none),
  (⟨2, 0, 9218868437227405312, [], false⟩, some (1, 20)), (⟨2, 0, 18442240474082181120, [], false⟩, some (1, -20)), (⟨2, 0, 4845873199050653696, [], false⟩, some (1, 8)),
  (⟨2, 0, 4890909195324358656, [], false⟩, some (1, 12)), (⟨2, 0, 1, [], false⟩, some (1, 1)),
  (⟨3, 0, 0, [], false⟩, some (3, 0)), (⟨3, 0, 0, [97], false⟩, some (3, 1)), (⟨3, 0, 0, [97, 98], false⟩, some (3, 2)), (⟨3, 0, 0, [98], false⟩, some (3, 3)), (⟨3, 0, 0, [98, 97], false⟩, some (3, 4)),
  (⟨3, 0, 0, [116, 119, 101, 108, 118, 101, 32, 98, 121, 116, 101, 115], false⟩, some (3, 5)),
  (⟨4, 0, 0, [], false⟩, some (4, 0)), (⟨4, 0, 0, [], true⟩, some (4, 1)),
  (⟨1, -9223372036854775808, 0, [], false⟩, some (1, -10)), (⟨1, 9223372036854775807, 0, [], false⟩, some (1, 11)), (⟨1, 9007199254740992, 0, [], false⟩, some (1, 8)), (⟨1, 9007199254740993, 0, [], false⟩, some (1, 9)),
  (⟨1, -1, 0, [], false⟩, some (1, -1)), (⟨1, 4611686018427387904, 0, [], false⟩, some (1, 10)), (⟨1, 0, 0, [], false⟩, some (1, 0)), (⟨1, 1, 0, [], false⟩, some (1, 3)), (⟨1, 2, 0, [], false⟩, some (1, 5)), (⟨1, 3, 0, [], false⟩, some (1, 6)), (⟨1, 4, 0, [], false⟩, some (1, 7))]
def FV (v : Val) (r : Option (Int × Int)) : Prop := (v, r) ∈ FVR
end Go.Ab
namespace Go.Ab
open Go
set_option linter.unusedVariables false
set_option linter.unusedSimpArgs false
set_option linter.unnecessarySimpa false
/-- A test of what a feed yields. -/
structure PFV (p : Pred) : Prop where
  v : ∃ r, FV p.v r
  w : ∃ r, FV p.w r
  set : ∀ x ∈ p.set, ∃ r, FV x r
end Go.Ab
