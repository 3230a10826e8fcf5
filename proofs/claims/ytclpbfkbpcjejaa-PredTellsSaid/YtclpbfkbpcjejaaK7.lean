/- Of any tests, right or not, and any value, what is right, taken, void, alike, and what implies what, is as the document says, whatever the input. Part 7. -/
import Derived.Test.YtclpbfkbpcjejaaK6
namespace Go.Proofs.Ytclpbfkbpcjejaa
open Go Go.Ab
set_option linter.unusedVariables false
set_option linter.unusedSimpArgs false
set_option linter.unnecessarySimpa false
set_option maxRecDepth 20000
noncomputable section
variable (fr : Fr) (st : St) (k : Kt)
def fi18 : FI := { body := codeOf Try.f18, ntmps := 2, results := [.tmp 0], pers := [0], locals := [], pure := true, marks := [] }
theorem fi18_eq : gS.fn 18 = some fi18 := by kernel_rfl
theorem x18 : gS.ext 18 = none := rfl
theorem p18 : fi18.pure = true := rfl
theorem k18 (fr : Fr) (st : St) : callStep gS (EvF gS) 18 [] fr st = some (.ok (.val (.bool true)) fr st) := by
  have hc : EvF gS 18 [] ⟨[], 0⟩ = some (.ret (.bool true) none, ⟨[], 0⟩) := Evn.lim ⟨400, fun n hn => by
    obtain ⟨m, rfl⟩ : ∃ m, n = m + 400 := ⟨n - 400, by omega⟩
    kernel_rfl⟩
  exact call_pure' rfl fi18_eq rfl rfl ⟨_, hc⟩ rfl
theorem new_feed (st : St) (l : List Int) : ({ objs := st.objs ++ [[V.slice (intVs l), V.int .i64 0]], wp := st.wp } : St) = setF (nw st 0 []) st.objs.length l (nA l 0 0) := by
  unfold setF nw nA
  simp
theorem feedOk_new {st : St} (h : st.wp ≤ st.objs.length) : FeedOk (nw st 0 []) st.objs.length := ⟨by rw [gr_len]; omega, h⟩
theorem implies_own (p : Pred) : pimplies p p = pright p := by
  by_cases h : pright p = true
  · rw [implies_refl h, h]
  · have h' : pright p = false := by simpa using h
    unfold pimplies
    simp [h']
theorem psame_own (p : Pred) : psame p p = true := by
  unfold psame; simp [vsame_refl, sames_refl]
theorem k15 {x y : Pred} {id : Nat} {st st' : St} {r : V} (h : EvF gS 15 [x.enc, y.enc, .ptr id 0] st = some (.ret r none, st')) (fr : Fr) : callStep gS (EvF gS) 15 [x.enc, y.enc, .ptr id 0] fr st = some (.ok (.val r) (fr.map E.noMem) st') := by
  unfold callStep
  simp only [show gS.ext 15 = none from rfl, fi15_eq, show fi15.pure = false from rfl, Bool.false_eq_true, if_false, h, retE]
  all_goals rfl
def fi4 : FI := { body := codeOf Try.f4, ntmps := 47, results := [.tmp 6], pers := [0, 1, 2, 3, 4, 6, 7, 8, 9], locals := [3, 4, 8, 9], pure := false, marks := [] }
theorem fi4_eq : gS.fn 4 = some fi4 := by kernel_rfl
theorem st4 (a0 a1 a2 : V) : startFr fi4 [a0, a1, a2] = { ps := [(0, .val a0), (1, .val a1), (2, .val a2), (3, .any), (4, .any), (6, .any), (7, .any), (8, .any), (9, .any)], ts := [], lc := [] } := rfl
def b4 : Code := mini (codeOf Try.f4)
def c4_1 : Code := codeN b4 2
theorem e4_1 : evK gS fi4 c4_1 fr st k = opsR gS fi4 [op1 3 (.box 27 (.tmp 0)) 0,
 op1 4 (.box 27 (.tmp 1)) 0,
 op1 6 (.assign (.const (.bool false))) 4] fr st k := evK_r 0 (by kernel_rfl)
def c4_3 : Code := codeN b4 5
theorem e4_3 : evK gS fi4 c4_3 fr st k = opsR gS fi4 [op1 10 (.move (.tmp 2)) 28,
 op1 11 (.build 31 #[(0, (.tmp 10))]) 31,
 op1 12 (.box 31 (.tmp 11)) 29,
 op1 7 (.assign (.tmp 12)) 29] fr st k := evK_r 1 (by kernel_rfl)
def c4_5 : Code := codeN b4 11
theorem e4_5 : evK gS fi4 c4_5 fr st k = opsR gS fi4 [op1 14 (.load 27 (.tmp 3)) 27,
 op1 15 (.load 27 (.tmp 4)) 27,
 op1 16 (.move (.tmp 7)) 29,
 op1 17 (.call { callee := (.value (.func 15)), args := #[(.tmp 14), (.tmp 15), (.tmp 16)], argTypes := #[27, 27, 29] }) 32,
 op1 13 (.move (.tmp 17)) 32,
 op1 18 (.extract (.tmp 13) 0) 27,
 op1 19 (.extract (.tmp 13) 1) 27,
 op1 8 (.alloc 27) 0,
 op1 9 (.alloc 27) 0,
 mk none (.store 27 (.tmp 8) (.tmp 18)) 0 none,
 mk none (.store 27 (.tmp 9) (.tmp 19)) 0 none] fr st k := evK_r 2 (by kernel_rfl)
def r4_7 : Array Oper := regOps (codeN (codeOf Try.f4) 23)
def c4_7 : Code := .region 3 r4_7 true
def q4_7 : List (Oper × Fl) := [(op1 20 (.call { callee := (.value (.func 18)), args := #[], argTypes := #[] }) 4, ⟨true, true, true, false, false, true, true, true, false, false, []⟩),
 (op1 21 (.move (.tmp 20)) 4, ⟨true, false, true, false, false, false, true, true, false, false, []⟩),
 (mk (some 22) (.load 27 (.tmp 8)) 27 (some (1, true)), ⟨true, false, true, false, false, false, true, true, false, false, []⟩),
 (mk (some 23) (.load 27 (.tmp 9)) 27 (some (1, true)), ⟨true, false, true, false, false, false, true, true, false, false, []⟩),
 (mk (some 24) (.call { callee := (.value (.func 27)), args := #[(.tmp 22), (.tmp 23)], argTypes := #[27, 27] }) 4 (some (1, true)), ⟨true, true, true, false, false, true, true, true, false, false, []⟩),
 (mk (some 25) (.load 27 (.tmp 8)) 27 (some (1, true)), ⟨true, false, true, false, false, false, true, true, false, false, []⟩),
 (mk (some 26) (.load 27 (.tmp 9)) 27 (some (1, true)), ⟨true, false, true, false, false, false, true, true, false, false, []⟩),
 (mk (some 27) (.call { callee := (.value (.func 28)), args := #[(.tmp 25), (.tmp 26)], argTypes := #[27, 27] }) 4 (some (1, true)), ⟨true, true, true, false, true, true, true, true, false, false, []⟩),
 (mk (some 28) (.binOp .eql 4 (.tmp 24) (.tmp 27) 4) 4 (some (1, true)), ⟨true, false, true, false, false, false, true, true, false, false, []⟩),
 (op1 29 (.pick (.tmp 21) (.tmp 28) (.const (.bool false))) 4, ⟨true, true, true, false, true, false, true, true, false, false, []⟩),
 (op1 30 (.move (.tmp 29)) 4, ⟨true, true, true, false, true, false, true, true, false, false, []⟩),
 (mk (some 31) (.load 27 (.tmp 9)) 27 (some (10, true)), ⟨true, false, true, false, false, false, true, true, false, false, []⟩),
 (mk (some 32) (.load 27 (.tmp 8)) 27 (some (10, true)), ⟨true, false, true, false, false, false, true, true, false, false, []⟩),
 (mk (some 33) (.call { callee := (.value (.func 27)), args := #[(.tmp 31), (.tmp 32)], argTypes := #[27, 27] }) 4 (some (10, true)), ⟨true, true, true, false, false, true, true, true, false, false, []⟩),
 (mk (some 34) (.load 27 (.tmp 9)) 27 (some (10, true)), ⟨true, false, true, false, false, false, true, true, false, false, []⟩),
 (mk (some 35) (.load 27 (.tmp 8)) 27 (some (10, true)), ⟨true, false, true, false, true, false, true, true, false, false, []⟩),
 (mk (some 36) (.call { callee := (.value (.func 28)), args := #[(.tmp 34), (.tmp 35)], argTypes := #[27, 27] }) 4 (some (10, true)), ⟨true, true, true, false, true, true, true, true, false, false, []⟩),
 (mk (some 37) (.binOp .eql 4 (.tmp 33) (.tmp 36) 4) 4 (some (10, true)), ⟨true, true, true, false, true, false, true, true, false, false, []⟩),
 (op1 38 (.pick (.tmp 30) (.tmp 37) (.const (.bool false))) 4, ⟨true, true, true, false, true, false, true, true, false, false, []⟩),
 (op1 39 (.move (.tmp 38)) 4, ⟨true, false, true, false, true, false, true, true, false, false, []⟩),
 (mk (some 40) (.load 27 (.tmp 8)) 27 (some (19, true)), ⟨true, false, true, false, false, false, true, true, false, false, []⟩),
 (mk (some 41) (.load 27 (.tmp 8)) 27 (some (19, true)), ⟨true, false, true, false, false, false, true, true, false, false, []⟩),
 (mk (some 42) (.call { callee := (.value (.func 27)), args := #[(.tmp 40), (.tmp 41)], argTypes := #[27, 27] }) 4 (some (19, true)), ⟨true, true, true, false, false, true, true, true, false, false, []⟩),
 (mk (some 43) (.load 27 (.tmp 8)) 27 (some (19, true)), ⟨true, false, true, false, true, false, true, true, false, false, []⟩),
 (mk (some 44) (.call { callee := (.value (.func 19)), args := #[(.tmp 43)], argTypes := #[27] }) 4 (some (19, true)), ⟨true, true, true, false, true, true, true, true, false, false, []⟩),
 (mk (some 45) (.binOp .eql 4 (.tmp 42) (.tmp 44) 4) 4 (some (19, true)), ⟨true, false, true, false, true, false, true, true, false, false, []⟩),
 (op1 46 (.pick (.tmp 39) (.tmp 45) (.const (.bool false))) 4, ⟨true, false, true, false, true, false, true, true, false, false, []⟩),
 (op1 6 (.assign (.tmp 46)) 4, ⟨true, true, true, false, true, false, true, true, false, false, []⟩)]
theorem e4_7 : evK gS fi4 c4_7 fr st k = drwR gS fi4 r4_7 q4_7 fr st k := evK_dr 3 rfl (by kernel_rfl) (by kernel_rfl)
def c4_8 : Code := .ret
theorem e4_8 : evK gS fi4 c4_8 fr st k = nextK gS fi4 k .ret fr st := rfl
def c4_6 : Code := .seq c4_7 c4_8
theorem e4_6 : evK gS fi4 c4_6 fr st k = evK gS fi4 c4_7 fr st (.seq c4_8 k) := rfl
def c4_4 : Code := .seq c4_5 c4_6
theorem e4_4 : evK gS fi4 c4_4 fr st k = evK gS fi4 c4_5 fr st (.seq c4_6 k) := rfl
def c4_2 : Code := .seq c4_3 c4_4
theorem e4_2 : evK gS fi4 c4_2 fr st k = evK gS fi4 c4_3 fr st (.seq c4_4 k) := rfl
def c4_0 : Code := .seq c4_1 c4_2
theorem e4_0 : evK gS fi4 c4_0 fr st k = evK gS fi4 c4_1 fr st (.seq c4_2 k) := rfl
theorem m4 : mini fi4.body = c4_0 := by kernel_rfl
set_option maxHeartbeats 8000000 in
theorem c4 (x y : Pred) (ox : x.name.length < 4611686018427387904) (oy : y.name.length < 4611686018427387904) (l : List Int) (st : St) (hst : st.wp ≤ st.objs.length) : ∃ st', EvF gS 4 [x.enc, y.enc, .slice (intVs l)] st = some (.ret (.bool true) none, st') := by
  have hm : fi4.marks = [] := rfl
  have hl : fi4.locals = [3, 4, 8, 9] := rfl
  have hr : fi4.results = [.tmp 6] := rfl
  have hf := feedOk_new hst
  have n1 := new_feed st l
  obtain ⟨p, q, S', a, op, oq, g1, g2, g3⟩ := c15 x y ox oy l _ (nw st 0 []) hf
  have hk := k15 g3
  have hi := implies_own p
  refine ⟨setF S' st.objs.length l (nA l 0 a), ?_⟩
  refine EvF_start fi4_eq (fun x h => by cases h) m4 ?_
  rw [st4]
  unfold Pred.enc Pred.cells at *
  simp [n1, hk, op.1, op.2, oq.1, oq.2, hi, -Int.not_le, -Int.not_lt, -Nat.not_le, -Nat.not_lt, ty4, ty27, ty28, ty29, ty31, hm, hl, hr, k18, x18, fi18_eq, p18, k19, x19, fi19_eq, p19, k27, x27, fi27_eq, p27, k28, x28, fi28_eq, p28, e4_1, e4_3, e4_5, e4_7, q4_7, e4_8, e4_6, e4_4, e4_2, e4_0]
def fi3 : FI := { body := codeOf Try.f3, ntmps := 86, results := [.tmp 8], pers := [0, 1, 2, 3, 4, 5, 6, 8, 9, 10, 11], locals := [4, 5, 6, 10, 11], pure := false, marks := [] }
theorem fi3_eq : gS.fn 3 = some fi3 := by kernel_rfl
theorem st3 (a0 a1 a2 a3 : V) : startFr fi3 [a0, a1, a2, a3] = { ps := [(0, .val a0), (1, .val a1), (2, .val a2), (3, .val a3), (4, .any), (5, .any), (6, .any), (8, .any), (9, .any), (10, .any), (11, .any)], ts := [], lc := [] } := rfl
def b3 : Code := mini (codeOf Try.f3)
def c3_1 : Code := codeN b3 2
theorem e3_1 : evK gS fi3 c3_1 fr st k = opsR gS fi3 [op1 4 (.box 27 (.tmp 0)) 0,
 op1 5 (.box 27 (.tmp 1)) 0,
 op1 6 (.box 24 (.tmp 2)) 0,
 op1 8 (.assign (.const (.bool false))) 4] fr st k := evK_r 0 (by kernel_rfl)
def c3_3 : Code := codeN b3 5
theorem e3_3 : evK gS fi3 c3_3 fr st k = opsR gS fi3 [op1 12 (.move (.tmp 3)) 28,
 op1 13 (.build 31 #[(0, (.tmp 12))]) 31,
 op1 14 (.box 31 (.tmp 13)) 29,
 op1 9 (.assign (.tmp 14)) 29] fr st k := evK_r 1 (by kernel_rfl)
def c3_5 : Code := codeN b3 11
theorem e3_5 : evK gS fi3 c3_5 fr st k = opsR gS fi3 [op1 16 (.load 27 (.tmp 4)) 27,
 op1 17 (.load 27 (.tmp 5)) 27,
 op1 18 (.move (.tmp 9)) 29,
 op1 19 (.call { callee := (.value (.func 15)), args := #[(.tmp 16), (.tmp 17), (.tmp 18)], argTypes := #[27, 27, 29] }) 32,
 op1 15 (.move (.tmp 19)) 32,
 op1 20 (.extract (.tmp 15) 0) 27,
 op1 21 (.extract (.tmp 15) 1) 27,
 op1 10 (.alloc 27) 0,
 op1 11 (.alloc 27) 0,
 mk none (.store 27 (.tmp 10) (.tmp 20)) 0 none,
 mk none (.store 27 (.tmp 11) (.tmp 21)) 0 none] fr st k := evK_r 2 (by kernel_rfl)
def c3_8 : Code := codeN b3 39
theorem e3_8 : evK gS fi3 c3_8 fr st k = opsR gS fi3 [op1 22 (.move (.tmp 9)) 29,
 op1 23 (.call { callee := (.value (.func 16)), args := #[(.tmp 22), (.const (.int .i64 4))], argTypes := #[29, 3] }) 3,
 op1 24 (.binOp .gtr 3 (.tmp 23) (.const (.int .i64 0)) 3) 4] fr st k := evK_r 3 (by kernel_rfl)
def c3_10 : Code := codeN b3 87
theorem e3_10 : evK gS fi3 c3_10 fr st k = opsR gS fi3 [op1 25 (.move (.tmp 9)) 29,
 op1 26 (.call { callee := (.value (.func 17)), args := #[(.tmp 25)], argTypes := #[29] }) 24,
 mk none (.store 24 (.tmp 6) (.tmp 26)) 0 none] fr st k := evK_r 4 (by kernel_rfl)
def c3_11 : Code := .skip
theorem e3_11 : evK gS fi3 c3_11 fr st k = nextK gS fi3 k .normal fr st := rfl
def c3_9 : Code := .cond (.tmp 24) c3_10 c3_11
theorem e3_9 : evK gS fi3 c3_9 fr st k = condK gS fi3 (fr.op (.tmp 24)).bool? c3_10 c3_11 fr st k := rfl
def c3_7 : Code := .seq c3_8 c3_9
theorem e3_7 : evK gS fi3 c3_7 fr st k = evK gS fi3 c3_8 fr st (.seq c3_9 k) := rfl
def c3_14 : Code := codeN b3 79
theorem e3_14 : evK gS fi3 c3_14 fr st k = opsR gS fi3 [op1 27 (.move (.tmp 9)) 29,
 op1 28 (.call { callee := (.value (.func 16)), args := #[(.tmp 27), (.const (.int .i64 4))], argTypes := #[29, 3] }) 3,
 op1 29 (.binOp .eql 3 (.tmp 28) (.const (.int .i64 0)) 3) 4] fr st k := evK_r 5 (by kernel_rfl)
def c3_16 : Code := codeN b3 175
theorem e3_16 : evK gS fi3 c3_16 fr st k = opsR gS fi3 [op1 30 (.fieldAddr 27 (.tmp 11) 2) 0,
 op1 31 (.load 24 (.tmp 30)) 24,
 mk none (.store 24 (.tmp 6) (.tmp 31)) 0 none] fr st k := evK_r 6 (by kernel_rfl)
def c3_17 : Code := .skip
theorem e3_17 : evK gS fi3 c3_17 fr st k = nextK gS fi3 k .normal fr st := rfl
def c3_15 : Code := .cond (.tmp 29) c3_16 c3_17
theorem e3_15 : evK gS fi3 c3_15 fr st k = condK gS fi3 (fr.op (.tmp 29)).bool? c3_16 c3_17 fr st k := rfl
def c3_13 : Code := .seq c3_14 c3_15
theorem e3_13 : evK gS fi3 c3_13 fr st k = evK gS fi3 c3_14 fr st (.seq c3_15 k) := rfl
def r3_19 : Array Oper := regOps (codeN (codeOf Try.f3) 95)
def c3_19 : Code := .region 7 r3_19 true
def q3_19 : List (Oper × Fl) := [(op1 32 (.call { callee := (.value (.func 18)), args := #[], argTypes := #[] }) 4, ⟨true, true, true, false, false, true, true, true, false, false, []⟩),
 (op1 33 (.move (.tmp 32)) 4, ⟨true, false, true, false, false, false, true, true, false, false, []⟩),
 (mk (some 34) (.load 27 (.tmp 10)) 27 (some (1, true)), ⟨true, false, true, false, false, false, true, true, false, false, []⟩),
 (mk (some 35) (.call { callee := (.value (.func 19)), args := #[(.tmp 34)], argTypes := #[27] }) 4 (some (1, true)), ⟨true, true, true, false, false, true, true, true, false, false, []⟩),
 (mk (some 36) (.load 27 (.tmp 10)) 27 (some (1, true)), ⟨true, false, true, false, false, false, true, true, false, false, []⟩),
 (mk (some 37) (.call { callee := (.value (.func 20)), args := #[(.tmp 36)], argTypes := #[27] }) 4 (some (1, true)), ⟨true, true, true, false, false, true, true, true, false, false, []⟩),
 (mk (some 38) (.binOp .eql 4 (.tmp 35) (.tmp 37) 4) 4 (some (1, true)), ⟨true, false, true, false, false, false, true, true, false, false, []⟩),
 (op1 39 (.pick (.tmp 33) (.tmp 38) (.const (.bool false))) 4, ⟨true, false, true, false, false, false, true, true, false, false, []⟩),
 (op1 40 (.move (.tmp 39)) 4, ⟨true, false, true, false, false, false, true, true, false, false, []⟩),
 (mk (some 41) (.load 27 (.tmp 11)) 27 (some (8, true)), ⟨true, false, true, false, false, false, true, true, false, false, []⟩),
 (mk (some 42) (.call { callee := (.value (.func 19)), args := #[(.tmp 41)], argTypes := #[27] }) 4 (some (8, true)), ⟨true, true, true, false, false, true, true, true, false, false, []⟩),
 (mk (some 43) (.load 27 (.tmp 11)) 27 (some (8, true)), ⟨true, false, true, false, false, false, true, true, false, false, []⟩),
 (mk (some 44) (.call { callee := (.value (.func 20)), args := #[(.tmp 43)], argTypes := #[27] }) 4 (some (8, true)), ⟨true, true, true, false, false, true, true, true, false, false, []⟩),
 (mk (some 45) (.binOp .eql 4 (.tmp 42) (.tmp 44) 4) 4 (some (8, true)), ⟨true, false, true, false, false, false, true, true, false, false, []⟩),
 (op1 46 (.pick (.tmp 40) (.tmp 45) (.const (.bool false))) 4, ⟨true, false, true, false, false, false, true, true, false, false, []⟩),
 (op1 47 (.move (.tmp 46)) 4, ⟨true, false, true, false, false, false, true, true, false, false, []⟩),
 (mk (some 48) (.load 27 (.tmp 10)) 27 (some (15, true)), ⟨true, false, true, false, false, false, true, true, false, false, []⟩),
 (mk (some 49) (.load 24 (.tmp 6)) 24 (some (15, true)), ⟨true, false, true, false, false, false, true, true, false, false, []⟩),
 (mk (some 50) (.call { callee := (.value (.func 21)), args := #[(.tmp 48), (.tmp 49)], argTypes := #[27, 24] }) 4 (some (15, true)), ⟨true, true, true, false, false, true, true, true, false, false, []⟩),
 (mk (some 51) (.load 27 (.tmp 10)) 27 (some (15, true)), ⟨true, false, true, false, false, false, true, true, false, false, []⟩),
 (mk (some 52) (.load 24 (.tmp 6)) 24 (some (15, true)), ⟨true, false, true, false, false, false, true, true, false, false, []⟩),
 (mk (some 53) (.call { callee := (.value (.func 22)), args := #[(.tmp 51), (.tmp 52)], argTypes := #[27, 24] }) 4 (some (15, true)), ⟨true, true, true, false, false, true, true, true, false, false, []⟩),
 (mk (some 54) (.binOp .eql 4 (.tmp 50) (.tmp 53) 4) 4 (some (15, true)), ⟨true, false, true, false, false, false, true, true, false, false, []⟩),
 (op1 55 (.pick (.tmp 47) (.tmp 54) (.const (.bool false))) 4, ⟨true, false, true, false, false, false, true, true, false, false, []⟩),
 (op1 56 (.move (.tmp 55)) 4, ⟨true, false, true, false, false, false, true, true, false, false, []⟩),
 (mk (some 57) (.load 27 (.tmp 11)) 27 (some (24, true)), ⟨true, false, true, false, false, false, true, true, false, false, []⟩),
 (mk (some 58) (.load 24 (.tmp 6)) 24 (some (24, true)), ⟨true, false, true, false, false, false, true, true, false, false, []⟩),
 (mk (some 59) (.call { callee := (.value (.func 21)), args := #[(.tmp 57), (.tmp 58)], argTypes := #[27, 24] }) 4 (some (24, true)), ⟨true, true, true, false, false, true, true, true, false, false, []⟩),
 (mk (some 60) (.load 27 (.tmp 11)) 27 (some (24, true)), ⟨true, false, true, false, false, false, true, true, false, false, []⟩),
 (mk (some 61) (.load 24 (.tmp 6)) 24 (some (24, true)), ⟨true, false, true, false, false, false, true, true, false, false, []⟩),
 (mk (some 62) (.call { callee := (.value (.func 22)), args := #[(.tmp 60), (.tmp 61)], argTypes := #[27, 24] }) 4 (some (24, true)), ⟨true, true, true, false, false, true, true, true, false, false, []⟩),
 (mk (some 63) (.binOp .eql 4 (.tmp 59) (.tmp 62) 4) 4 (some (24, true)), ⟨true, false, true, false, false, false, true, true, false, false, []⟩),
 (op1 64 (.pick (.tmp 56) (.tmp 63) (.const (.bool false))) 4, ⟨true, false, true, false, false, false, true, true, false, false, []⟩),
 (op1 65 (.move (.tmp 64)) 4, ⟨true, false, true, false, false, false, true, true, false, false, []⟩),
 (mk (some 66) (.load 27 (.tmp 11)) 27 (some (33, true)), ⟨true, false, true, false, false, false, true, true, false, false, []⟩),
 (mk (some 67) (.call { callee := (.value (.func 23)), args := #[(.tmp 66)], argTypes := #[27] }) 4 (some (33, true)), ⟨true, true, true, false, false, true, true, true, false, false, []⟩),
 (mk (some 68) (.load 27 (.tmp 11)) 27 (some (33, true)), ⟨true, false, true, false, false, false, true, true, false, false, []⟩),
 (mk (some 69) (.call { callee := (.value (.func 24)), args := #[(.tmp 68)], argTypes := #[27] }) 4 (some (33, true)), ⟨true, true, true, false, true, true, true, true, false, false, []⟩),
 (mk (some 70) (.binOp .eql 4 (.tmp 67) (.tmp 69) 4) 4 (some (33, true)), ⟨true, false, true, false, false, false, true, true, false, false, []⟩),
 (op1 71 (.pick (.tmp 65) (.tmp 70) (.const (.bool false))) 4, ⟨true, false, true, false, true, false, true, true, false, false, []⟩),
 (op1 72 (.move (.tmp 71)) 4, ⟨true, false, true, false, true, false, true, true, false, false, []⟩),
 (mk (some 73) (.load 27 (.tmp 10)) 27 (some (40, true)), ⟨true, false, true, false, false, false, true, true, false, false, []⟩),
 (mk (some 74) (.load 27 (.tmp 11)) 27 (some (40, true)), ⟨true, false, true, false, false, false, true, true, false, false, []⟩),
 (mk (some 75) (.call { callee := (.value (.func 25)), args := #[(.tmp 73), (.tmp 74)], argTypes := #[27, 27] }) 4 (some (40, true)), ⟨true, true, true, false, false, true, true, true, false, false, []⟩),
 (mk (some 76) (.load 27 (.tmp 10)) 27 (some (40, true)), ⟨true, false, true, false, false, false, true, true, false, false, []⟩),
 (mk (some 77) (.load 27 (.tmp 11)) 27 (some (40, true)), ⟨true, false, true, false, true, false, true, true, false, false, []⟩),
 (mk (some 78) (.call { callee := (.value (.func 26)), args := #[(.tmp 76), (.tmp 77)], argTypes := #[27, 27] }) 4 (some (40, true)), ⟨true, true, true, false, true, true, true, true, false, false, []⟩),
 (mk (some 79) (.binOp .eql 4 (.tmp 75) (.tmp 78) 4) 4 (some (40, true)), ⟨true, false, true, false, true, false, true, true, false, false, []⟩),
 (op1 80 (.pick (.tmp 72) (.tmp 79) (.const (.bool false))) 4, ⟨true, false, true, false, true, false, true, true, false, false, []⟩),
 (op1 81 (.move (.tmp 80)) 4, ⟨true, false, true, false, true, false, true, true, false, false, []⟩),
 (mk (some 82) (.load 27 (.tmp 10)) 27 (some (49, true)), ⟨true, false, true, false, false, false, true, true, false, false, []⟩),
 (mk (some 83) (.load 27 (.tmp 10)) 27 (some (49, true)), ⟨true, false, true, false, true, false, true, true, false, false, []⟩),
 (mk (some 84) (.call { callee := (.value (.func 25)), args := #[(.tmp 82), (.tmp 83)], argTypes := #[27, 27] }) 4 (some (49, true)), ⟨true, true, true, false, true, true, true, true, false, false, []⟩),
 (op1 85 (.pick (.tmp 81) (.tmp 84) (.const (.bool false))) 4, ⟨true, false, true, false, true, false, true, true, false, false, []⟩),
 (op1 8 (.assign (.tmp 85)) 4, ⟨true, true, true, false, true, false, true, true, false, false, []⟩)]
theorem e3_19 : evK gS fi3 c3_19 fr st k = drwR gS fi3 r3_19 q3_19 fr st k := evK_dr 7 rfl (by kernel_rfl) (by kernel_rfl)
def c3_20 : Code := .ret
theorem e3_20 : evK gS fi3 c3_20 fr st k = nextK gS fi3 k .ret fr st := rfl
def c3_18 : Code := .seq c3_19 c3_20
theorem e3_18 : evK gS fi3 c3_18 fr st k = evK gS fi3 c3_19 fr st (.seq c3_20 k) := rfl
def c3_12 : Code := .seq c3_13 c3_18
theorem e3_12 : evK gS fi3 c3_12 fr st k = evK gS fi3 c3_13 fr st (.seq c3_18 k) := rfl
def c3_6 : Code := .seq c3_7 c3_12
theorem e3_6 : evK gS fi3 c3_6 fr st k = evK gS fi3 c3_7 fr st (.seq c3_12 k) := rfl
def c3_4 : Code := .seq c3_5 c3_6
theorem e3_4 : evK gS fi3 c3_4 fr st k = evK gS fi3 c3_5 fr st (.seq c3_6 k) := rfl
def c3_2 : Code := .seq c3_3 c3_4
theorem e3_2 : evK gS fi3 c3_2 fr st k = evK gS fi3 c3_3 fr st (.seq c3_4 k) := rfl
def c3_0 : Code := .seq c3_1 c3_2
theorem e3_0 : evK gS fi3 c3_0 fr st k = evK gS fi3 c3_1 fr st (.seq c3_2 k) := rfl
theorem m3 : mini fi3.body = c3_0 := by kernel_rfl
set_option maxHeartbeats 8000000 in
theorem c3 (x y : Pred) (v : Val) (ox : x.name.length < 4611686018427387904) (oy : y.name.length < 4611686018427387904) (l : List Int) (st : St) (hst : st.wp ≤ st.objs.length) : ∃ st', EvF gS 3 [x.enc, y.enc, v.enc, .slice (intVs l)] st = some (.ret (.bool true) none, st') := by
  have hm : fi3.marks = [] := rfl
  have hl : fi3.locals = [4, 5, 6, 10, 11] := rfl
  have hr : fi3.results = [.tmp 8] := rfl
  have hf := feedOk_new hst
  have n1 := new_feed st l
  obtain ⟨p, q, S', a, op, oq, g1, g2, g3⟩ := c15 x y ox oy l _ (nw st 0 []) hf
  have hk := k15 g3
  have hs := psame_own p
  have h4 := fun fr => k16 l 0 a st.objs.length 4 fr S' g1 (by omega) (by omega) (by omega)
  have hb := fd_bound l 0 a (n := 4) (by omega)
  have hv := fun fr => k17 l 0 (a + 1) st.objs.length fr S' g1 (by omega) (by omega)
  have h42 := fun fr => k16 l 0 (a + 1 + 2) st.objs.length 4 fr S' g1 (by omega) (by omega) (by omega)
  have h41 := fun fr => k16 l 0 (a + 1) st.objs.length 4 fr S' g1 (by omega) (by omega) (by omega)
  have a3 : a + 1 + 2 = a + 3 := rfl
  generalize valueV l 0 (a + 1) = w at *
  generalize fd l 0 a 4 = z at *
  generalize fd l 0 (a + 1 + 2) 4 = z2 at *
  generalize fd l 0 (a + 1) 4 = z3 at *
  by_cases hz : 0 < z
  · refine ⟨setF S' st.objs.length l (nA l 0 (a + 1 + 2 + 1)), ?_⟩
    refine EvF_start fi3_eq (fun x h => by cases h) m3 ?_
    rw [st3]
    unfold Pred.enc Pred.cells Val.enc Val.cells at *
    by_cases hz2 : z2 = 0
    · simp [n1, hk, op.1, op.2, oq.1, oq.2, h4, h42, hv, hz, hz2, hs, -Int.not_le, -Int.not_lt, -Nat.not_le, -Nat.not_lt, ty3, ty4, ty24, ty27, ty28, ty29, ty31, eq24, hm, hl, hr, fi16_eq, fi17_eq, k18, x18, fi18_eq, p18, k19, x19, fi19_eq, p19, k20, x20, fi20_eq, p20, k21, x21, fi21_eq, p21, k22, x22, fi22_eq, p22, k23, x23, fi23_eq, p23, k24, x24, fi24_eq, p24, k25, x25, fi25_eq, p25, k26, x26, fi26_eq, p26, e3_1, e3_3, e3_5, e3_8, e3_10, e3_11, e3_9, e3_7, e3_14, e3_16, e3_17, e3_15, e3_13, e3_19, q3_19, e3_20, e3_18, e3_12, e3_6, e3_4, e3_2, e3_0]
    · simp [n1, hk, op.1, op.2, oq.1, oq.2, h4, h42, hv, hz, hz2, hs, -Int.not_le, -Int.not_lt, -Nat.not_le, -Nat.not_lt, ty3, ty4, ty24, ty27, ty28, ty29, ty31, eq24, hm, hl, hr, fi16_eq, fi17_eq, k18, x18, fi18_eq, p18, k19, x19, fi19_eq, p19, k20, x20, fi20_eq, p20, k21, x21, fi21_eq, p21, k22, x22, fi22_eq, p22, k23, x23, fi23_eq, p23, k24, x24, fi24_eq, p24, k25, x25, fi25_eq, p25, k26, x26, fi26_eq, p26, e3_1, e3_3, e3_5, e3_8, e3_10, e3_11, e3_9, e3_7, e3_14, e3_16, e3_17, e3_15, e3_13, e3_19, q3_19, e3_20, e3_18, e3_12, e3_6, e3_4, e3_2, e3_0]
  · refine ⟨setF S' st.objs.length l (nA l 0 (a + 1 + 1)), ?_⟩
    refine EvF_start fi3_eq (fun x h => by cases h) m3 ?_
    rw [st3]
    unfold Pred.enc Pred.cells Val.enc Val.cells at *
    by_cases hz3 : z3 = 0
    · simp [n1, hk, op.1, op.2, oq.1, oq.2, h4, h41, hv, hz, hz3, hs, -Int.not_le, -Int.not_lt, -Nat.not_le, -Nat.not_lt, ty3, ty4, ty24, ty27, ty28, ty29, ty31, eq24, hm, hl, hr, fi16_eq, fi17_eq, k18, x18, fi18_eq, p18, k19, x19, fi19_eq, p19, k20, x20, fi20_eq, p20, k21, x21, fi21_eq, p21, k22, x22, fi22_eq, p22, k23, x23, fi23_eq, p23, k24, x24, fi24_eq, p24, k25, x25, fi25_eq, p25, k26, x26, fi26_eq, p26, e3_1, e3_3, e3_5, e3_8, e3_10, e3_11, e3_9, e3_7, e3_14, e3_16, e3_17, e3_15, e3_13, e3_19, q3_19, e3_20, e3_18, e3_12, e3_6, e3_4, e3_2, e3_0]
    · simp [n1, hk, op.1, op.2, oq.1, oq.2, h4, h41, hv, hz, hz3, hs, -Int.not_le, -Int.not_lt, -Nat.not_le, -Nat.not_lt, ty3, ty4, ty24, ty27, ty28, ty29, ty31, eq24, hm, hl, hr, fi16_eq, fi17_eq, k18, x18, fi18_eq, p18, k19, x19, fi19_eq, p19, k20, x20, fi20_eq, p20, k21, x21, fi21_eq, p21, k22, x22, fi22_eq, p22, k23, x23, fi23_eq, p23, k24, x24, fi24_eq, p24, k25, x25, fi25_eq, p25, k26, x26, fi26_eq, p26, e3_1, e3_3, e3_5, e3_8, e3_10, e3_11, e3_9, e3_7, e3_14, e3_16, e3_17, e3_15, e3_13, e3_19, q3_19, e3_20, e3_18, e3_12, e3_6, e3_4, e3_2, e3_0]
theorem run4 (x y : Pred) (ox : x.name.length < 4611686018427387904) (oy : y.name.length < 4611686018427387904) (l : List Int) : ∃ st', EvF gS 4 [x.enc, y.enc, .slice (intVs l)] ⟨[], 0⟩ = some (.ret (.bool true) none, st') := c4 x y ox oy l ⟨[], 0⟩ (Nat.le_refl _)
theorem run3 (x y : Pred) (v : Val) (ox : x.name.length < 4611686018427387904) (oy : y.name.length < 4611686018427387904) (l : List Int) : ∃ st', EvF gS 3 [x.enc, y.enc, v.enc, .slice (intVs l)] ⟨[], 0⟩ = some (.ret (.bool true) none, st') := c3 x y v ox oy l ⟨[], 0⟩ (Nat.le_refl _)
end
end Go.Proofs.Ytclpbfkbpcjejaa
namespace Go.Ab
open Go Go.ChangeShapes Go.WideShapes
set_option linter.unusedVariables false
set_option linter.unusedSimpArgs false
set_option linter.unnecessarySimpa false
variable {H : Type} {enc : TypeId × Value → H} {P : Program} {w : World} {base b0 : Nat} {spare : Nat → Bool} {held : Bool} {r : Reach}
theorem arg_ints {t e : TypeId} {k : IntKind} {v : Value} {d : DataW H} {ps : List MemPlace} (ht : P.underlying t = some (.slice e)) (he : P.underlying e = some (.int k)) (hc : P.cellsOf e = 1)
    (hval : Value.okWide P w r b0 t v) (h : DataW.Trod enc P w base spare held t v d ps) : ∃ zs : List Int, Rep K0 w v (.slice (zs.map (V.int k))) ∧ ∀ n ∈ zs, (Lit.int k n).wf = true := by
  obtain ⟨a0, len, cap, rfl⟩ := okWide_slice ht hval
  obtain ⟨fuel, hf⟩ := h
  rcases open_ints ht he hc hf with ⟨hcs, _⟩ | ⟨a, len', cap', zs, hcs, _, hl, hm, hz, _, hcell, hwz⟩
  · simp [Value.cells] at hcs
    obtain ⟨rfl, rfl, rfl⟩ := hcs
    exact ⟨[], .slice0 _ _, by simp⟩
  · simp [Value.cells] at hcs
    obtain ⟨rfl, rfl, rfl⟩ := hcs
    have hzl : len ≤ zs.length := by rw [hz]; split <;> omega
    by_cases h0 : len = 0
    · subst h0; exact ⟨[], .slice0 _ _, by simp⟩
    · refine ⟨zs.take len, ?_, fun n hn => hwz n (List.mem_of_mem_take hn)⟩
      obtain ⟨b, off, spot⟩ := a
      have hspot : spot = none := by simpa [Addr.add] using World.cell?_spot (hcell 0 (by omega))
      subst hspot
      have hlen : ((zs.take len).map (V.int k)).length = len := by simp; omega
      have hfl : ((zs.take len).map (V.int k)).flatMap V.cells = (zs.take len).map (V.int k) := by
        generalize zs.take len = l
        induction l with
        | nil => rfl
        | cons x r ih => simp only [List.map_cons, List.flatMap_cons, ih]; rfl
      have key : Rep K0 w (.slice (some (at_ b off)) ((zs.take len).map (V.int k)).length cap) (.slice ((zs.take len).map (V.int k))) := by
        refine .slice (k := 1) (by rw [hlen]; exact hl) (fun x hx => ?_) ?_
        · obtain ⟨n, _, rfl⟩ := List.mem_map.1 hx; rfl
        · rw [hfl]
          refine RepAt.of_get fun j x hx => ?_
          rw [List.getElem?_map, List.getElem?_take] at hx
          split at hx
          · rename_i hj
            have hjz : j < zs.length := by omega
            rw [List.getElem?_eq_getElem hjz] at hx
            simp only [Option.map_some, Option.some.injEq] at hx
            subst hx
            refine ⟨.int k zs[j], ⟨?_, rfl⟩, .int _ _⟩
            have := hcell j hjz
            simp only [List.getD, List.getElem?_eq_getElem hjz, Option.getD_some] at this
            rwa [show ({ block := b, off := off } : Addr) = at_ b off from rfl, addr_add] at this
          · cases hx
      rw [hlen] at key
      exact key
end Go.Ab
namespace Go.Ab
open Go Go.ChangeShapes Go.WideShapes
set_option linter.unusedVariables false
set_option linter.unusedSimpArgs false
set_option linter.unnecessarySimpa false
variable {H : Type} {enc : TypeId × Value → H} {P : Program} {w : World} {base b0 : Nat} {spare : Nat → Bool} {held : Bool} {r : Reach}
/-- Plain types. -/
inductive Ty where
  | bool | int (k : IntKind) | float (k : FloatKind) | str
  | sl (e : Ty)
  | st (fs : List Ty)
mutual
def Ty.size : Ty → Nat
  | .st fs => Ty.sizes fs
  | _ => 1
def Ty.sizes : List Ty → Nat
  | [] => 0
  | f :: r => f.size + Ty.sizes r
end
mutual
/-- Is a type of the program that plain type? -/
def tyB (P : Program) : Ty → TypeId → Bool
  | .bool, t => match P.underlying t with | some .bool => true | _ => false
  | .int k, t => match P.underlying t with | some (.int k') => decide (k' = k) | _ => false
  | .float k, t => match P.underlying t with | some (.float k') => decide (k' = k) | _ => false
  | .str, t => match P.underlying t with | some .string => true | _ => false
  | .sl e, t => match P.underlying t with | some (.slice u) => tyB P e u && P.cellsOf u == e.size && Nat.blt 0 e.size | _ => false
  | .st fs, t => match P.underlying t with | some (.struct gs) => tyFs P fs gs.toList 0 && P.cellsOf t == Ty.sizes fs | _ => false
def tyFs (P : Program) : List Ty → List Field → Nat → Bool
  | [], [], _ => true
  | f :: fs, g :: gs, off => g.offset == off && tyB P f g.type && P.cellsOf g.type == f.size && tyFs P fs gs (off + f.size)
  | _, _, _ => false
end
/-- An element made of its cells. -/
def elt : Ty → List V → V
  | .st _, cs => .agg cs
  | _, cs => cs.headD .any
mutual
/-- What cells of a plain type look like. -/
def Fits : Ty → List V → Prop
  | .bool, cs => ∃ b, cs = [.bool b]
  | .int k, cs => ∃ n, cs = [.int k n]
  | .float k, cs => ∃ b, cs = [.float k b]
  | .str, cs => ∃ s, cs = [.str s]
  | .sl e, cs => ∃ xs : List (List V), cs = [.slice (xs.map (elt e))] ∧ ∀ x ∈ xs, Fits e x
  | .st fs, cs => FitsL fs cs
def FitsL : List Ty → List V → Prop
  | [], cs => cs = []
  | f :: fs, cs => ∃ a b, cs = a ++ b ∧ Fits f a ∧ FitsL fs b
end
mutual
theorem fits_len : ∀ (T : Ty) {cs : List V}, Fits T cs → cs.length = T.size
  | .bool, _, h => by obtain ⟨b, rfl⟩ := h; rfl
  | .int k, _, h => by obtain ⟨b, rfl⟩ := h; rfl
  | .float k, _, h => by obtain ⟨b, rfl⟩ := h; rfl
  | .str, _, h => by obtain ⟨b, rfl⟩ := h; rfl
  | .sl e, _, h => by obtain ⟨b, rfl, _⟩ := h; rfl
  | .st fs, _, h => fitsL_len fs h
theorem fitsL_len : ∀ (fs : List Ty) {cs : List V}, FitsL fs cs → cs.length = Ty.sizes fs
  | [], _, h => by have : _ = _ := h; subst this; rfl
  | f :: fs, _, h => by
    obtain ⟨a, b, rfl, h1, h2⟩ := h
    rw [List.length_append, fits_len f h1, fitsL_len fs h2]; rfl
end
theorem elt_cells {T : Ty} {cs : List V} (h : Fits T cs) : (elt T cs).cells = cs := by
  cases T with
  | st fs => rfl
  | bool => obtain ⟨b, rfl⟩ := h; rfl
  | int k => obtain ⟨b, rfl⟩ := h; rfl
  | float k => obtain ⟨b, rfl⟩ := h; rfl
  | str => obtain ⟨b, rfl⟩ := h; rfl
  | sl e => obtain ⟨b, rfl, _⟩ := h; rfl
theorem reps_append' {κ : K} {w : World} {vs us : List Value} {xs ys : List V} (h : Reps κ w vs xs) (k : Reps κ w us ys) : Reps κ w (vs ++ us) (xs ++ ys) := by
  induction xs generalizing vs with
  | nil => cases h; exact k
  | cons x r ih =>
    cases h with
    | cons h1 h2 => exact .cons h1 (ih h2)
theorem reps_get' {κ : K} {w : World} {vs : List Value} {xs : List V} (h : Reps κ w vs xs) : ∀ (j : Nat) x, xs[j]? = some x → ∃ v, vs[j]? = some v ∧ Rep κ w v x := by
  induction xs generalizing vs with
  | nil => intro j x hx; simp at hx
  | cons y r ih =>
    cases h with
    | cons h1 h2 =>
      intro j x hx
      cases j with
      | zero => simp at hx; subst hx; exact ⟨_, rfl, h1⟩
      | succ j => simpa using ih h2 j x (by simpa using hx)
/-- Cells of each of many elements, one behind the other. -/
theorem cells_at {k : Nat} (hk : 0 < k) {b off : Nat} : ∀ {n : Nat} (f : Nat → List Value) (g : Nat → List V), (∀ i, i < n → (f i).length = k ∧ Reps K0 w (f i) (g i) ∧ (g i).length = k ∧ ∀ j, j < k → w.cell? (at_ b (off + (i * k + j))) = (f i)[j]?) →
    RepAt K0 w b off (((List.range n).map g).flatMap id) := by
  intro n f g h
  refine RepAt.of_get fun j x hx => ?_
  have hc : ∀ (m : Nat), m ≤ n → ((((List.range m).map g).flatMap id).length = m * k) := by
    intro m
    induction m with
    | zero => intro _; simp
    | succ m ih =>
      intro hm
      rw [List.range_succ, List.map_append, List.flatMap_append, List.length_append, ih (by omega)]
      simp [(h m (by omega)).2.2.1, Nat.succ_mul]
  have key : ∀ (m : Nat), m ≤ n → ∀ j x, ((((List.range m).map g).flatMap id)[j]? = some x) → ∃ v, w.cell? (at_ b (off + j)) = some v ∧ Rep K0 w v x := by
    intro m
    induction m with
    | zero => intro _ j x hx; simp at hx
    | succ m ih =>
      intro hm j x hx
      rw [List.range_succ, List.map_append, List.flatMap_append] at hx
      by_cases hj : j < m * k
      · rw [List.getElem?_append_left (by rw [hc m (by omega)]; exact hj)] at hx
        exact ih (by omega) j x hx
      · rw [List.getElem?_append_right (by rw [hc m (by omega)]; omega), hc m (by omega)] at hx
        simp only [List.map_cons, List.map_nil, List.flatMap_cons, List.flatMap_nil, id, List.append_nil] at hx
        obtain ⟨h1, h2, h3, h4⟩ := h m (by omega)
        obtain ⟨v, hv, hr⟩ := reps_get' h2 _ _ hx
        have hjl := (List.getElem?_eq_some_iff.1 hx).1
        rw [h3] at hjl
        refine ⟨v, ?_, hr⟩
        have := h4 (j - m * k) hjl
        rw [hv] at this
        rw [← this]; congr 2; omega
  obtain ⟨v, hv, hr⟩ := key n (Nat.le_refl _) j x hx
  exact ⟨v, ⟨hv, rfl⟩, hr⟩
theorem choose_range {α : Type} [Inhabited α] {n : Nat} {p : Nat → α → Prop} (h : ∀ i, i < n → ∃ x, p i x) : ∃ f : Nat → α, ∀ i, i < n → p i (f i) := by
  refine ⟨fun i => if hi : i < n then Classical.choose (h i hi) else default, fun i hi => ?_⟩
  simp only [hi, dif_pos]
  exact Classical.choose_spec (h i hi)
mutual
theorem any_ok : ∀ (T : Ty) {fuel : Nat} {t : TypeId} {cs : List Value} {x : DataW H × List MemPlace}, tyB P T t = true → DataW.trod enc P w base spare held fuel t cs = some x → ∃ xs, Reps K0 w cs xs ∧ Fits T xs
  | .bool, fuel, t, cs, x, ht, h => by
    unfold tyB at ht
    split at ht
    · rename_i hu
      obtain ⟨b, rfl, _⟩ := DataW.trod_bool hu h
      exact ⟨[.bool b], .cons (.bool b) .nil, b, rfl⟩
    · cases ht
  | .int k, fuel, t, cs, x, ht, h => by
    unfold tyB at ht
    split at ht
    · rename_i k' hu
      obtain ⟨n, rfl, _⟩ := DataW.trod_int hu h
      have := of_decide_eq_true ht
      subst this
      exact ⟨[.int k' n], .cons (.int k' n) .nil, n, rfl⟩
    · cases ht
  | .float k, fuel, t, cs, x, ht, h => by
    unfold tyB at ht
    split at ht
    · rename_i k' hu
      have hk := of_decide_eq_true ht
      subst hk
      cases fuel with
      | zero => simp [DataW.trod] at h
      | succ n =>
        unfold DataW.trod at h
        rw [hu] at h
        split at h <;> simp_all
        obtain ⟨⟨rfl, _⟩, _⟩ := h
        exact ⟨_, .cons (.float _ _) .nil, _, rfl⟩
    · cases ht
  | .str, fuel, t, cs, x, ht, h => by
    unfold tyB at ht
    split at ht
    · rename_i hu
      obtain ⟨s, rfl, _⟩ := DataW.trod_string hu h
      exact ⟨[.str s.data.toList], .cons (.str s) .nil, _, rfl⟩
    · cases ht
  | .sl e, fuel, t, cs, x, ht, h => by
    unfold tyB at ht
    split at ht
    · rename_i u hu
      simp only [Bool.and_eq_true, beq_iff_eq, Nat.blt_eq] at ht
      obtain ⟨⟨h1, h2⟩, h3⟩ := ht
      rcases DataW.trod_slice hu h with ⟨rfl, _⟩ | ⟨a, len, cap, elems, rest, n, rfl, rfl, _, hb, hl, hm, hlen, hel, _, _⟩
      · exact ⟨[.slice []], .cons (.slice0 _ _) .nil, [], rfl, by simp⟩
      · by_cases h0 : len = 0
        · subst h0; exact ⟨[.slice []], .cons (.slice0 _ _) .nil, [], rfl, by simp⟩
        · rw [h2] at hel
          have each : ∀ i, i < len → ∃ c : List Value × List V, c.1.length = e.size ∧ Reps K0 w c.1 c.2 ∧ Fits e c.2 ∧ ∀ j, j < e.size → w.cell? ((a.add (i * e.size)).add j) = c.1[j]? := by
            intro i hi
            have hi' := hel i hi
            rw [List.getElem?_eq_getElem (by omega)] at hi'
            obtain ⟨c, hc1, hc2⟩ := Option.bind_eq_some_iff.1 hi'
            obtain ⟨_, c1, c2⟩ := World.cells?_some hc1
            obtain ⟨xs, x1, x2⟩ := any_ok e h1 hc2
            exact ⟨(c, xs), c1, x1, x2, c2⟩
          obtain ⟨f, hf⟩ := choose_range each
          obtain ⟨b, off, spot⟩ := a
          have hspot : spot = none := by
            obtain ⟨q1, q2, q3, q4⟩ := hf 0 (by omega)
            have := q4 0 h3
            rw [List.getElem?_eq_getElem (by omega)] at this
            have := World.cell?_spot this
            simpa [Addr.add] using this
          subst hspot
          have hat : RepAt K0 w b off (((List.range len).map fun i => (f i).2).flatMap id) := cells_at h3 (fun i => (f i).1) (fun i => (f i).2) fun i hi => by
            obtain ⟨q1, q2, q3, q4⟩ := hf i hi
            refine ⟨q1, q2, fits_len e q3, fun j hj => ?_⟩
            have := q4 j hj
            rw [show ({ block := b, off := off } : Addr) = at_ b off from rfl, addr_add, addr_add] at this
            rw [← this]; congr 2; omega
          let xs := (List.range len).map fun i => (f i).2
          have hxl : (xs.map (elt e)).length = len := by simp [xs]
          have hfit : ∀ x ∈ xs, Fits e x := by
            intro x hx
            obtain ⟨i, hi, rfl⟩ := List.mem_map.1 hx
            exact (hf i (List.mem_range.1 hi)).2.2.1
          have hfl : (xs.map (elt e)).flatMap V.cells = xs.flatMap id := by
            have : ∀ l : List (List V), (∀ x ∈ l, Fits e x) → (l.map (elt e)).flatMap V.cells = l.flatMap id := by
              intro l
              induction l with
              | nil => intro _; rfl
              | cons y r ih =>
                intro hl
                simp only [List.map_cons, List.flatMap_cons]
                rw [elt_cells (hl y (by simp)), ih (fun z hz => hl z (by simp [hz]))]; rfl
            exact this xs hfit
          have key := Rep.slice (κ := K0) (w := w) (b := b) (o := off) (cap := cap) (k := e.size) (xs := xs.map (elt e)) (by rw [hxl]; exact hl) (fun y hy => by
            obtain ⟨z, hz, rfl⟩ := List.mem_map.1 hy
            rw [elt_cells (hfit z hz)]; exact fits_len e (hfit z hz)) (by rw [hfl]; exact hat)
          rw [hxl] at key
          exact ⟨[.slice (xs.map (elt e))], .cons key .nil, xs, rfl, hfit⟩
    · cases ht
  | .st fs, fuel, t, cs, x, ht, h => by
    unfold tyB at ht
    split at ht
    · rename_i gs hu
      simp only [Bool.and_eq_true, beq_iff_eq] at ht
      obtain ⟨ys, n, rfl, _, hcl, hyl, hf⟩ := DataW.trod_struct hu h
      have := anyL_ok fs gs.toList 0 cs (n := n) ht.1 (fun i f hi => by
        have hi' : gs[i]? = some f := by rw [← Array.getElem?_toList]; exact hi
        have h1 := hf i f hi'
        have h2 : i < ys.length := by rw [hyl]; exact (Array.getElem?_eq_some_iff.1 hi').1
        rw [List.getElem?_eq_getElem h2] at h1
        exact ⟨_, h1⟩) (by rw [hcl, ht.2]; simp)
      obtain ⟨xs, h1, h2⟩ := this
      rw [List.drop_zero] at h1
      exact ⟨xs, h1, h2⟩
    · cases ht
theorem anyL_ok : ∀ (fs : List Ty) (gs : List Field) (off : Nat) (cs : List Value) {n : Nat}, tyFs P fs gs off = true → (∀ (i : Nat) (f : Field), gs[i]? = some f → ∃ x, DataW.trod enc P w base spare held n f.type ((cs.drop f.offset).take (P.cellsOf f.type)) = some x) → cs.length = off + Ty.sizes fs →
    ∃ xs, Reps K0 w (cs.drop off) xs ∧ FitsL fs xs
  | [], gs, off, cs, n, ht, h, hl => by
    have : cs.drop off = [] := List.drop_of_length_le (by rw [hl]; exact Nat.le_refl _)
    rw [this]
    exact ⟨[], .nil, rfl⟩
  | f :: fs, [], off, cs, n, ht, h, hl => by simp [tyFs] at ht
  | f :: fs, g :: gs, off, cs, n, ht, h, hl => by
    simp only [tyFs, Bool.and_eq_true, beq_iff_eq] at ht
    obtain ⟨⟨⟨h1, h2⟩, h3⟩, h4⟩ := ht
    obtain ⟨x, hx⟩ := h 0 g rfl
    rw [h1, h3] at hx
    obtain ⟨xs, x1, x2⟩ := any_ok f h2 hx
    have hs : Ty.sizes (f :: fs) = f.size + Ty.sizes fs := rfl
    obtain ⟨ys, y1, y2⟩ := anyL_ok fs gs (off + f.size) cs h4 (fun i q hi => h (i + 1) q hi) (by rw [hl, hs]; omega)
    refine ⟨xs ++ ys, ?_, xs, ys, rfl, x2, y2⟩
    have hsp : cs.drop off = (cs.drop off).take f.size ++ cs.drop (off + f.size) := by
      rw [← List.drop_drop, List.take_append_drop]
    rw [hsp]
    exact reps_append' x1 y1
end
/-- An argument of a plain type. -/
theorem arg_any (T : Ty) {t : TypeId} {v : Value} {d : DataW H} {ps : List MemPlace} (ht : tyB P T t = true) (h : DataW.Trod enc P w base spare held t v d ps) : ∃ xs, Reps K0 w v.cells.toList xs ∧ Fits T xs := by
  obtain ⟨fuel, hf⟩ := h
  exact any_ok T ht hf
theorem arg_struct {fs : List Ty} {t : TypeId} {gs : Array Field} {v : Value} {d : DataW H} {ps : List MemPlace} (hu : P.underlying t = some (.struct gs)) (ht : tyB P (.st fs) t = true) (hval : Value.okWide P w r b0 t v) (h : DataW.Trod enc P w base spare held t v d ps) :
    ∃ xs, Rep K0 w v (.agg xs) ∧ Fits (.st fs) xs := by
  obtain ⟨xs, h1, h2⟩ := arg_any (.st fs) ht h
  simp only [Value.okWide, hu] at hval
  obtain ⟨cs, rfl, _⟩ := hval
  exact ⟨xs, .agg (by simpa [Value.cells] using h1), h2⟩
end Go.Ab
namespace Go.Ab
open Go Go.ChangeShapes Go.WideShapes
set_option linter.unusedVariables false
set_option linter.unusedSimpArgs false
set_option linter.unnecessarySimpa false
variable {H : Type} {enc : TypeId × Value → H} {P : Program} {w : World} {base b0 : Nat} {spare : Nat → Bool} {held : Bool} {r : Reach}
def TVal : List Ty := [.int .i64, .int .i64, .float .f64, .str, .bool]
def TPred : List Ty := [.str, .int .i64, .st TVal, .st TVal, .sl (.st TVal)]
theorem fits_val {cs : List V} (h : Fits (.st TVal) cs) : ∃ v : Val, cs = v.cells := by
  obtain ⟨_, _, rfl, ⟨k, rfl⟩, _, _, rfl, ⟨n, rfl⟩, _, _, rfl, ⟨x, rfl⟩, _, _, rfl, ⟨s, rfl⟩, _, _, rfl, ⟨b, rfl⟩, h⟩ := h
  cases h
  exact ⟨⟨k, n, x, s, b⟩, rfl⟩
theorem fits_vals : ∀ {xs : List (List V)}, (∀ x ∈ xs, Fits (.st TVal) x) → ∃ vs : List Val, xs.map (elt (.st TVal)) = encVals vs
  | [], _ => ⟨[], rfl⟩
  | x :: r, h => by
    obtain ⟨v, hv⟩ := fits_val (h x (by simp))
    obtain ⟨vs, hs⟩ := fits_vals (xs := r) (fun y hy => h y (by simp [hy]))
    refine ⟨v :: vs, ?_⟩
    rw [List.map_cons, hs, hv]; rfl
theorem fits_pred {cs : List V} (h : Fits (.st TPred) cs) : ∃ p : Pred, cs = p.cells := by
  obtain ⟨_, _, rfl, ⟨nm, rfl⟩, _, _, rfl, ⟨t, rfl⟩, _, _, rfl, hv, _, _, rfl, hw, _, _, rfl, ⟨xs, rfl, hx⟩, h⟩ := h
  cases h
  obtain ⟨v, rfl⟩ := fits_val hv
  obtain ⟨u, rfl⟩ := fits_val hw
  obtain ⟨vs, hs⟩ := fits_vals hx
  refine ⟨⟨nm, t, v, u, vs⟩, ?_⟩
  rw [hs]; rfl
theorem arg_val {t : TypeId} {gs : Array Field} {v : Value} {d : DataW H} {ps : List MemPlace} (hu : P.underlying t = some (.struct gs)) (ht : tyB P (.st TVal) t = true) (hval : Value.okWide P w r b0 t v) (h : DataW.Trod enc P w base spare held t v d ps) :
    ∃ x : Val, Rep K0 w v x.enc := by
  obtain ⟨xs, h1, h2⟩ := arg_struct hu ht hval h
  obtain ⟨x, rfl⟩ := fits_val h2
  exact ⟨x, h1⟩
theorem arg_pred {t : TypeId} {gs : Array Field} {f : Field} {v : Value} {d : DataW H} {ps : List MemPlace} (hu : P.underlying t = some (.struct gs)) (hf : gs[0]? = some f) (hfo : f.offset = 0) (hft : P.underlying f.type = some .string) (hfc : P.cellsOf f.type = 1)
    (ht : tyB P (.st TPred) t = true) (hval : Value.okWide P w r b0 t v) (h : DataW.Trod enc P w base spare held t v d ps) (hw : ∀ n ∈ d.weights P t, n ≤ reachBytes) :
    ∃ p : Pred, Rep K0 w v p.enc ∧ p.name.length < 4611686018427387904 := by
  obtain ⟨xs, h1, h2⟩ := arg_struct hu ht hval h
  obtain ⟨p, rfl⟩ := fits_pred h2
  refine ⟨p, h1, ?_⟩
  obtain ⟨fuel, hx⟩ := h
  obtain ⟨cs, rfl, h3⟩ : ∃ cs, v = .agg cs ∧ Reps K0 w cs.toList p.cells := by
    cases h1 with
    | agg h3 => exact ⟨_, rfl, h3⟩
  obtain ⟨ys, n, rfl, he, hcl, hyl, hys⟩ := DataW.trod_struct hu hx
  simp only [Prod.mk.injEq] at he
  obtain ⟨rfl, _⟩ := he
  have h0 := hys 0 f hf
  rw [show (Value.cells (.agg cs)).toList = cs.toList from rfl] at h0
  generalize cs.toList = L at h3 h0
  unfold Pred.cells at h3
  cases h3 with
  | cons ha hr =>
    generalize hnm : p.name = nm at *
    cases ha with
    | str s =>
      have hgs : 0 < gs.size := (Array.getElem?_eq_some_iff.1 hf).1
      rw [hfo, hfc, List.drop_zero, List.take_succ_cons, List.take_zero, List.getElem?_eq_getElem (by omega)] at h0
      obtain ⟨s', e1, e2, _⟩ := DataW.trod_string hft h0
      cases e1
      have hm : s.data.toList.length ∈ DataW.weightsEach P (gs.toList.map (·.type)) (ys.map (·.1)) := by
        refine DataW.weights_mem_each (j := 0) (t := f.type) (d := .lit (.string s.data.toList)) ?_ ?_ _ ?_
        · rw [List.getElem?_map, Array.getElem?_toList, hf]; rfl
        · rw [List.getElem?_map, List.getElem?_eq_getElem (by omega), e2]; rfl
        · simp [DataW.weights]
      have := hw _ (by rw [DataW.weights]; rw [hu]; exact hm)
      unfold reachBytes at this
      omega
end Go.Ab
namespace Go.Proofs.Ytclpbfkbpcjejaa
open Go Go.Ab Go.ChangeShapes Go.WideShapes Go.ChangeAt Go.RowKit
set_option linter.unusedVariables false
set_option linter.unusedSimpArgs false
set_option linter.unnecessarySimpa false
set_option maxRecDepth 100000 in
theorem predImplies_lifted (os : Os) (started : os.Started) (H : Type) (enc : TypeId × Value → H) :
    ReturnsInHanded {} Try.checked os 4 .any (Rows.predImpliesSpec.pre6 enc Try.prog Try.f4 Rows.predImpliesRow.domain false) (Rows.predImpliesSpec.post enc Try.prog Try.f4 false true false false) := by
  refine returnsInHanded_of_change_sized (C := Try.checked) Try.own started (by kernel_rfl) Try.func4
    (ChangeSpec.witness6 (enc := enc) (C := Try.checked) false ⟨#[], #[.agg #[.string ⟨#[]⟩, .int .i64 0, .int .i64 0, .int .i64 0, .float .f64 0, .string ⟨#[]⟩, .bool false, .int .i64 0, .int .i64 0, .float .f64 0, .string ⟨#[]⟩, .bool false, .slice none 0 0], .agg #[.string ⟨#[]⟩, .int .i64 0, .int .i64 0, .int .i64 0, .float .f64 0, .string ⟨#[]⟩, .bool false, .int .i64 0, .int .i64 0, .float .f64 0, .string ⟨#[]⟩, .bool false, .slice none 0 0], .slice none 0 0], []⟩ 8 (by kernel_rfl) (by kernel_rfl) (by kernel_rfl) (by kernel_rfl)) ?_
  intro W base args ds gs before hval0 hW _ hsz0 _
  have hW' := hW
  obtain ⟨p, q, hA0, hV, rfl, _, _⟩ := hW
  have hA : DataW.TrodAll enc Try.prog W 0 (fun _ => true) true Try.f4.params.toList args.toList ds p := hA0
  have hpar : Try.f4.params = #[27, 27, 28] := by kernel_rfl
  have hval : ∀ (j : Nat) t v, Try.f4.params[j]? = some t → args[j]? = some v → Value.okWide Try.prog W .any base t v := hval0
  rw [hpar] at hA hval
  obtain ⟨l⟩ := args
  obtain ⟨v0, l, d0, ds, p0, r0, rfl, rfl, rfl, h0, hA⟩ := trodAll_cons hA
  obtain ⟨v1, l, d1, ds, p1, r1, rfl, rfl, rfl, h1, hA⟩ := trodAll_cons hA
  obtain ⟨v2, l, d2, ds, p2, r2, rfl, rfl, rfl, h2, hA⟩ := trodAll_cons hA
  obtain ⟨rfl, rfl, rfl⟩ := trodAll_nil hA
  obtain ⟨rfl, rfl⟩ := trodVars_none hV
  obtain ⟨x0, a0, b0⟩ := arg_pred Try.underlying27 rfl rfl Try.underlying9 (by kernel_rfl) (by kernel_rfl) (hval 0 27 v0 rfl rfl) h0 (fun n hn => of_decide_eq_true (List.all_eq_true.1 hsz0 n (DataW.weights_mem_each (j := 0) (by rw [hpar]; rfl) rfl n hn)))
  obtain ⟨x1, a1, b1⟩ := arg_pred Try.underlying27 rfl rfl Try.underlying9 (by kernel_rfl) (by kernel_rfl) (hval 1 27 v1 rfl rfl) h1 (fun n hn => of_decide_eq_true (List.all_eq_true.1 hsz0 n (DataW.weights_mem_each (j := 1) (by rw [hpar]; rfl) rfl n hn)))
  obtain ⟨x2, a2, _⟩ := arg_ints Try.underlying28 Try.underlying3 (by kernel_rfl) (hval 2 28 v2 rfl rfl) h2
  have hlt : ∀ y ∈ p0 ++ (p1 ++ (p2 ++ [])) ++ [], y.block < W.heap.size := fun y hy => hW'.lt y hy
  have hr : Reps K0 W [v0, v1, v2] [(Pred.enc x0), (Pred.enc x1), .slice (intVs x2)] := .cons a0 (.cons a1 (.cons a2 .nil))
  obtain ⟨st', hev⟩ := run4 x0 x1 b0 b1 x2
  obtain ⟨nn, hrun⟩ := EvF_fuel hev
  refine (law_calls (n := nn) (f := 4) (xs := [(Pred.enc x0), (Pred.enc x1), .slice (intVs x2)]) (gS_calls nn) (by rw [hrun]) (W := W) (args := #[v0, v1, v2]) hr).mono ?_
  rintro e W' ⟨rfl, hn⟩
  refine ⟨_, rfl, _, _, _, [], p0 ++ (p1 ++ (p2 ++ [])), [], hW', ?_, ?_, rfl, hn.frame _, fun h => by cases h⟩
  · exact trodAll_mk1 (shut_bool Try.underlying4 true)
  · exact ⟨p0, _, Below.trod Try.laidOut (by kernel_rfl) (of_decide_eq_true (by kernel_rfl)) h0 hn (fun y hy => hlt y (by simp [hy])), ⟨p1, _, Below.trod Try.laidOut (by kernel_rfl) (of_decide_eq_true (by kernel_rfl)) h1 hn (fun y hy => hlt y (by simp [hy])), ⟨p2, _, Below.trod Try.laidOut (by kernel_rfl) (of_decide_eq_true (by kernel_rfl)) h2 hn (fun y hy => hlt y (by simp [hy])), rfl, rfl⟩, rfl⟩, rfl⟩
theorem predImplies_holds : Rows.PredImpliesSaid :=
  OpenClaim.holds_of_wide 4 Try.f4 rfl rfl rfl rfl rfl rfl rfl ⟨rfl, rfl, rfl, rfl, rfl⟩ rfl rfl rfl rfl rfl (by kernel_rfl) Try.func4 (by kernel_rfl)
    (of_decide_eq_true (by kernel_rfl)) (by unfold Func.isWrapper; first | (rw [if_pos (by decide +kernel)]; kernel_rfl) | (rw [if_neg (by decide +kernel)]; exact ⟨rfl, rfl⟩))
    (fun os started H enc _ => predImplies_lifted os started H enc)
#print axioms predImplies_holds
end Go.Proofs.Ytclpbfkbpcjejaa
namespace Go.Proofs.Ytclpbfkbpcjejaa
open Go Go.Ab Go.ChangeShapes Go.WideShapes Go.ChangeAt Go.RowKit
set_option linter.unusedVariables false
set_option linter.unusedSimpArgs false
set_option linter.unnecessarySimpa false
set_option maxRecDepth 100000 in
theorem predTells_lifted (os : Os) (started : os.Started) (H : Type) (enc : TypeId × Value → H) :
    ReturnsInHanded {} Try.checked os 3 .any (Rows.predTellsSpec.pre6 enc Try.prog Try.f3 Rows.predTellsRow.domain false) (Rows.predTellsSpec.post enc Try.prog Try.f3 false true false false) := by
  refine returnsInHanded_of_change_sized (C := Try.checked) Try.own started (by kernel_rfl) Try.func3
    (ChangeSpec.witness6 (enc := enc) (C := Try.checked) false ⟨#[], #[.agg #[.string ⟨#[]⟩, .int .i64 0, .int .i64 0, .int .i64 0, .float .f64 0, .string ⟨#[]⟩, .bool false, .int .i64 0, .int .i64 0, .float .f64 0, .string ⟨#[]⟩, .bool false, .slice none 0 0], .agg #[.string ⟨#[]⟩, .int .i64 0, .int .i64 0, .int .i64 0, .float .f64 0, .string ⟨#[]⟩, .bool false, .int .i64 0, .int .i64 0, .float .f64 0, .string ⟨#[]⟩, .bool false, .slice none 0 0], .agg #[.int .i64 0, .int .i64 0, .float .f64 0, .string ⟨#[]⟩, .bool false], .slice none 0 0], []⟩ 8 (by kernel_rfl) (by kernel_rfl) (by kernel_rfl) (by kernel_rfl)) ?_
  intro W base args ds gs before hval0 hW _ hsz0 _
  have hW' := hW
  obtain ⟨p, q, hA0, hV, rfl, _, _⟩ := hW
  have hA : DataW.TrodAll enc Try.prog W 0 (fun _ => true) true Try.f3.params.toList args.toList ds p := hA0
  have hpar : Try.f3.params = #[27, 27, 24, 28] := by kernel_rfl
  have hval : ∀ (j : Nat) t v, Try.f3.params[j]? = some t → args[j]? = some v → Value.okWide Try.prog W .any base t v := hval0
  rw [hpar] at hA hval
  obtain ⟨l⟩ := args
  obtain ⟨v0, l, d0, ds, p0, r0, rfl, rfl, rfl, h0, hA⟩ := trodAll_cons hA
  obtain ⟨v1, l, d1, ds, p1, r1, rfl, rfl, rfl, h1, hA⟩ := trodAll_cons hA
  obtain ⟨v2, l, d2, ds, p2, r2, rfl, rfl, rfl, h2, hA⟩ := trodAll_cons hA
  obtain ⟨v3, l, d3, ds, p3, r3, rfl, rfl, rfl, h3, hA⟩ := trodAll_cons hA
  obtain ⟨rfl, rfl, rfl⟩ := trodAll_nil hA
  obtain ⟨rfl, rfl⟩ := trodVars_none hV
  obtain ⟨x0, a0, b0⟩ := arg_pred Try.underlying27 rfl rfl Try.underlying9 (by kernel_rfl) (by kernel_rfl) (hval 0 27 v0 rfl rfl) h0 (fun n hn => of_decide_eq_true (List.all_eq_true.1 hsz0 n (DataW.weights_mem_each (j := 0) (by rw [hpar]; rfl) rfl n hn)))
  obtain ⟨x1, a1, b1⟩ := arg_pred Try.underlying27 rfl rfl Try.underlying9 (by kernel_rfl) (by kernel_rfl) (hval 1 27 v1 rfl rfl) h1 (fun n hn => of_decide_eq_true (List.all_eq_true.1 hsz0 n (DataW.weights_mem_each (j := 1) (by rw [hpar]; rfl) rfl n hn)))
  obtain ⟨x2, a2⟩ := arg_val Try.underlying24 (by kernel_rfl) (hval 2 24 v2 rfl rfl) h2
  obtain ⟨x3, a3, _⟩ := arg_ints Try.underlying28 Try.underlying3 (by kernel_rfl) (hval 3 28 v3 rfl rfl) h3
  have hlt : ∀ y ∈ p0 ++ (p1 ++ (p2 ++ (p3 ++ []))) ++ [], y.block < W.heap.size := fun y hy => hW'.lt y hy
  have hr : Reps K0 W [v0, v1, v2, v3] [(Pred.enc x0), (Pred.enc x1), (Val.enc x2), .slice (intVs x3)] := .cons a0 (.cons a1 (.cons a2 (.cons a3 .nil)))
  obtain ⟨st', hev⟩ := run3 x0 x1 x2 b0 b1 x3
  obtain ⟨nn, hrun⟩ := EvF_fuel hev
  refine (law_calls (n := nn) (f := 3) (xs := [(Pred.enc x0), (Pred.enc x1), (Val.enc x2), .slice (intVs x3)]) (gS_calls nn) (by rw [hrun]) (W := W) (args := #[v0, v1, v2, v3]) hr).mono ?_
  rintro e W' ⟨rfl, hn⟩
  refine ⟨_, rfl, _, _, _, [], p0 ++ (p1 ++ (p2 ++ (p3 ++ []))), [], hW', ?_, ?_, rfl, hn.frame _, fun h => by cases h⟩
  · exact trodAll_mk1 (shut_bool Try.underlying4 true)
  · exact ⟨p0, _, Below.trod Try.laidOut (by kernel_rfl) (of_decide_eq_true (by kernel_rfl)) h0 hn (fun y hy => hlt y (by simp [hy])), ⟨p1, _, Below.trod Try.laidOut (by kernel_rfl) (of_decide_eq_true (by kernel_rfl)) h1 hn (fun y hy => hlt y (by simp [hy])), ⟨p2, _, Below.trod Try.laidOut (by kernel_rfl) (of_decide_eq_true (by kernel_rfl)) h2 hn (fun y hy => hlt y (by simp [hy])), ⟨p3, _, Below.trod Try.laidOut (by kernel_rfl) (of_decide_eq_true (by kernel_rfl)) h3 hn (fun y hy => hlt y (by simp [hy])), rfl, rfl⟩, rfl⟩, rfl⟩, rfl⟩
theorem predTells_holds : Rows.PredTellsSaid :=
  OpenClaim.holds_of_wide 3 Try.f3 rfl rfl rfl rfl rfl rfl rfl ⟨rfl, rfl, rfl, rfl, rfl⟩ rfl rfl rfl rfl rfl (by kernel_rfl) Try.func3 (by kernel_rfl)
    (of_decide_eq_true (by kernel_rfl)) (by unfold Func.isWrapper; first | (rw [if_pos (by decide +kernel)]; kernel_rfl) | (rw [if_neg (by decide +kernel)]; exact ⟨rfl, rfl⟩))
    (fun os started H enc _ => predTells_lifted os started H enc)
#print axioms predTells_holds
end Go.Proofs.Ytclpbfkbpcjejaa
