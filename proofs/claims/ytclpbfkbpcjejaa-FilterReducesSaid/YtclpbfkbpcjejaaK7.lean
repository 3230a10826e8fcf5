/- Of any filters the row is as the document says. Part 7. -/
import Derived.SizedLaws
import Derived.Test.YtclpbfkbpcjejaaK6
namespace Go.Proofs.Ytclpbfkbpcjejaa
open Go Go.Ab
set_option linter.unusedVariables false
set_option linter.unusedSimpArgs false
set_option linter.unnecessarySimpa false
set_option maxRecDepth 20000
noncomputable section
variable (fr : Fr) (st : St) (k : Kt)
def fi51 : FI := { body := codeOf Try.f51, ntmps := 25, results := [.tmp 2], pers := [0, 2, 3, 4, 5], locals := [5], pure := false, marks := [23] }
theorem fi51_eq : gS.fn 51 = some fi51 := by kernel_rfl
theorem st51 (a0 : V) : startFr fi51 [a0] = { ps := [(0, .val a0), (2, .any), (3, .any), (4, .any), (5, .any)], ts := [], lc := [] } := rfl
def b51 : Code := mini (codeOf Try.f51)
def c51_12 : Code := .cond (.tmp 9) .skip (.exit 0)
def c51_10 : Code := .seq (codeN b51 267) c51_12
def c51_21 : Code := codeN b51 3659
def c51_19 : Code := .seq (codeN b51 2635) c51_21
def c51_17 : Code := .seq (codeN b51 1099) c51_19
def c51_22 : Code := codeN b51 459
def c51_15 : Code := .seq (.block 1 c51_17) c51_22
def c51_9 : Code := .seq c51_10 c51_15
def c51_8 : Code := .loop c51_9
def c51_7 : Code := .block 0 c51_8
def c51_5 : Code := .seq (codeN b51 19) c51_7
def c51_23 : Code := .seq (codeN b51 23) .ret
def c51_4 : Code := .seq c51_5 c51_23
def c51_2 : Code := .seq (codeN b51 5) c51_4
def c51_0 : Code := .seq (codeN b51 2) c51_2
theorem E51 : evK gS fi51 c51_12 fr st k = condK gS fi51 (fr.op (.tmp 9)).bool? .skip (.exit 0) fr st k ∧
 (evK gS fi51 c51_10 fr st k = opsR gS fi51 [mv 6 4 3,
 mv 7 0 49,
 len1 8 7 49 3,
 bop 9 .lss 3 6 8 3 4] fr st (.seq c51_12 k)) ∧
 (evK gS fi51 c51_21 fr st k = opsR gS fi51 [mv 20 3 49,
 ld 21 27 5 27,
 op1 22 (.buildSlice 49 1 #[(0, (.tmp 21))]) 49,
 op1 23 (.call { callee := (.builtin .append), args := #[(.tmp 20), (.tmp 22)], argTypes := #[49, 49] }) 49,
 asn 3 23 49] fr st k) ∧
 (evK gS fi51 c51_19 fr st k = opsR gS fi51 [op1 16 (.fieldAddr 27 (.tmp 5) 4) 0,
 ld 17 25 16 25,
 op1 18 (.call { callee := (.builtin .append), args := #[(.const (.slice none 0 0)), (.tmp 17)], argTypes := #[25, 25] }) 25,
 op1 19 (.fieldAddr 27 (.tmp 5) 4) 0,
 sto 25 19 18] fr st (.seq c51_21 k)) ∧
 (evK gS fi51 c51_17 fr st k = opsR gS fi51 [mv 12 0 49,
 mv 13 4 3,
 ixa 14 49 12 13 0,
 ld 15 27 14 27,
 op1 5 (.alloc 27) 0,
 sto 27 5 15] fr st (.seq c51_19 k)) ∧
 (evK gS fi51 c51_22 fr st k = opsR gS fi51 [mv 10 4 3,
 op1 11 (.binOp .add 3 (.tmp 10) (.const (.int .i64 1)) 3) 3,
 asn 4 11 3] fr st k) ∧
 evK gS fi51 c51_15 fr st k = evK gS fi51 c51_17 fr st (.blk 1 (.seq c51_22 k)) ∧
 evK gS fi51 c51_9 fr st k = evK gS fi51 c51_10 fr st (.seq c51_15 k) ∧
 evK gS fi51 c51_7 fr st k = evK gS fi51 c51_8 fr st (.blk 0 k) ∧
 evK gS fi51 c51_5 fr st k = opsR gS fi51 [op1 4 (.assign (.const (.int .i64 0))) 3] fr st (.seq c51_7 k) ∧
 (evK gS fi51 c51_23 fr st k = opsR gS fi51 [mv 24 3 49,
 asn 2 24 49] fr st (.seq .ret k)) ∧
 evK gS fi51 c51_4 fr st k = evK gS fi51 c51_5 fr st (.seq c51_23 k) ∧
 evK gS fi51 c51_2 fr st k = opsR gS fi51 [op1 3 (.assign (.const (.slice none 0 0))) 49] fr st (.seq c51_4 k) ∧
 evK gS fi51 c51_0 fr st k = opsR gS fi51 [op1 2 (.assign (.const (.slice none 0 0))) 49] fr st (.seq c51_2 k) := ⟨rfl, evK_rs 3 rfl (by kernel_rfl), evK_r 7 (by kernel_rfl), evK_rs 6 rfl (by kernel_rfl), evK_rs 5 rfl (by kernel_rfl), evK_r 4 (by kernel_rfl), rfl, rfl, rfl, evK_rs 2 rfl (by kernel_rfl), evK_rs 8 rfl (by kernel_rfl), rfl, evK_rs 1 rfl (by kernel_rfl), evK_rs 0 rfl (by kernel_rfl)⟩
theorem m51 : mini fi51.body = c51_0 := by kernel_rfl
theorem n51_8 (fr : Fr) (st : St) (k : Kt) : nextK gS fi51 (.loop c51_9 k) .normal fr st = evK gS fi51 c51_8 fr st k := rfl
/-- How a copy is handed out, and the state then. -/
def copV (L : Nat) (f : List Pred) : V := if f = [] then .slice [] else .sref false 13 (L + (f.length - 1)) 0 f.length
def copK (f : List Pred) : Option Nat := if f = [] then some 0 else none
def copS (st : St) (f : List Pred) : St := if f = [] then st else nw st (f.length - 1) (f.flatMap Pred.cells)
set_option maxHeartbeats 8000000 in
theorem L51 (f : List Pred) (h_f : PSm f) (st : St) (hst : st.wp ≤ st.objs.length) : ∀ (n i : Nat) (e5 : E) (T : List (Nat × E)) (X : List (Nat × List V)) (ht5 : e5.Tame), i < f.length → f.length - i = n + 1 →
    evK gS fi51 c51_8 { ps := [(0, .val (.slice (encPreds f))), (2, .own 0 []), (3, .val (.sref false 13 (st.objs.length + i) 0 (i + 1))), (4, .val (.int .i64 ((i + 1 : Nat) : Int))), (5, e5)], ts := T, lc := X } (nw st i ((f.take (i + 1)).flatMap Pred.cells)) (.blk 0 (.seq c51_23 .nil)) = some (.ret (.sref false 13 (st.objs.length + (f.length - 1)) 0 f.length) none, nw st (f.length - 1) (f.flatMap Pred.cells)) := by
  intro n
  have hm : fi51.marks = [23] := rfl
  have hl : fi51.locals = [5] := rfl
  have hr : fi51.results = [.tmp 2] := rfl
  have hfl := h_f.1
  induction n with
  | zero =>
    intro i e5 T X ht5 hi hn
    obtain hie : i + 1 = f.length := by omega
    have hie2 : f.length - 1 = i := by omega
    refine evK_loop c51_9 _ _ _ _ rfl ?_
    rw [hie2, ← hie, List.take_of_length_le (by omega)]
    have hlt : ¬ (((i + 1 : Nat) : Int) < (f.length : Int)) := by omega
    simp [-Int.natCast_add, -St.obj, -St.set, hlt, ht5, -Int.not_le, -Int.not_lt, -Nat.not_le, -Nat.not_lt, ty3, ty4, ty25, ty27, ty49, hm, hl, hr, E51, n51_8]
  | succ n ih =>
    intro i e5 T X ht5 hi hn
    obtain ⟨x, hx⟩ : ∃ x, f[i + 1]? = some x := ⟨f[i + 1]'(by omega), List.getElem?_eq_getElem (by omega)⟩
    have hlt : ((i + 1 : Nat) : Int) < (f.length : Int) := by omega
    have hlt2 : i + 1 < f.length := by omega
    have hxe : f[i + 1]'hlt2 = x := by rw [List.getElem?_eq_getElem hlt2] at hx; exact Option.some.inj hx
    have hw : IntKind.wrap .i64 (((i + 1 : Nat) : Int) + 1) = ((i + 1 + 1 : Nat) : Int) := by rw [wrap64 (by omega) (by omega)]; omega
    have hxs := (h_f.2 x (List.mem_of_getElem? hx)).2
    have hxs2 : x.set.length ≤ 140737488355328 := by omega
    have htk : f.take (i + 1 + 1) = f.take (i + 1) ++ [x] := by rw [List.take_succ_eq_append_getElem hlt2, hxe]
    have IH := fun e5 T X ht5 => ih (i + 1) e5 T X ht5 (by omega) (by omega)
    have hfm : (f.take (i + 1) ++ [x]).flatMap Pred.cells = (f.take (i + 1)).flatMap Pred.cells ++ [.str x.name, .int .i64 x.test, .int .i64 x.v.kind, .int .i64 x.v.n, .float .f64 x.v.x, .str x.v.s, .bool x.v.b, .int .i64 x.w.kind, .int .i64 x.w.n, .float .f64 x.w.x, .str x.w.s, .bool x.w.b, .slice (encVals x.set)] := by
      rw [List.flatMap_append, List.flatMap_cons, List.flatMap_nil, List.append_nil]; rfl
    rw [htk, hfm] at IH
    have hsv := sizes_vals x.set
    have hln : (f.take (i + 1)).length = i + 1 := by simp; omega
    have hcl := row_len Pred.cells 13 pcells_len (f.take (i + 1))
    rw [hln] at hcl
    have hstp := row_strip Pred.cells Pred.cells pcells_strip (f.take (i + 1))
    have hon := row_one Pred.cells pcells_one (f.take (i + 1))
    have b1 : (i + 1 + 1) * 144 ≤ 140737488355328 := by omega
    have b2 : i + 1 + 1 ≤ 140737488355328 := by omega
    generalize (f.take (i + 1)).flatMap Pred.cells = C at *
    have ho := nw_obj st i C
    have hk := nw_kill hst i C
    have hnr := fun fr k len cs => newRef_dd' st fr (i + 1) k len cs
    refine evK_loop c51_9 _ _ _ _ rfl ?_
    simp [-Int.natCast_add, -St.obj, -St.set, ht5, hx, hxe, hlt, hlt2, hw, hxs, hxs2, hsv, hcl, hstp, hon, ho, hk, hnr, b1, b2, IH, markStep, markAppend, elemsAt, -Int.not_le, -Int.not_lt, -Nat.not_le, -Nat.not_lt, ty3, ty4, ty25, ty27, ty49, hm, hl, hr, E51, n51_8]
set_option maxHeartbeats 8000000 in
theorem c51 (f : List Pred) (h_f : PSm f) (st : St) (hst : st.wp ≤ st.objs.length) : EvF gS 51 [.slice (encPreds f)] st = some (.ret (copV st.objs.length f) (copK f), copS st f) := by
  refine EvF_start fi51_eq (fun x h => by cases h) m51 ?_
  rw [st51]
  have hm : fi51.marks = [23] := rfl
  have hl : fi51.locals = [5] := rfl
  have hr : fi51.results = [.tmp 2] := rfl
  have hfl := h_f.1
  unfold copV copK copS
  cases f with
  | nil =>
    simp [show encPreds [] = [] from rfl, -Int.not_le, -Int.not_lt, -Nat.not_le, -Nat.not_lt, ty3, ty4, ty25, ty27, ty49, hm, hl, hr, E51, n51_8]
    refine evK_loop c51_9 _ _ _ _ rfl ?_
    simp [show encPreds [] = [] from rfl, -Int.not_le, -Int.not_lt, -Nat.not_le, -Nat.not_lt, ty3, ty4, ty25, ty27, ty49, hm, hl, hr, E51, n51_8]
  | cons x r =>
    rw [if_neg (by simp), if_neg (by simp), if_neg (by simp)]
    have L0 := fun e5 T X ht5 => L51 (x :: r) h_f st hst r.length 0 e5 T X ht5 (by simp) (by simp)
    have hxs := (h_f.2 x (by simp)).2
    have hxs2 : x.set.length ≤ 140737488355328 := by omega
    have hsv := sizes_vals x.set
    have hc1 : ((x :: r).take (0 + 1)).flatMap Pred.cells = [.str x.name, .int .i64 x.test, .int .i64 x.v.kind, .int .i64 x.v.n, .float .f64 x.v.x, .str x.v.s, .bool x.v.b, .int .i64 x.w.kind, .int .i64 x.w.n, .float .f64 x.w.x, .str x.w.s, .bool x.w.b, .slice (encVals x.set)] := by simp [Pred.cells]
    rw [hc1] at L0
    generalize hR : (Out.ret (V.sref false 13 (st.objs.length + ((x :: r).length - 1)) 0 (x :: r).length) none, nw st ((x :: r).length - 1) ((x :: r).flatMap Pred.cells)) = R at L0 ⊢
    clear hR
    have hnr := fun fr k len cs => newRef_0 st fr k len cs
    have hx : (x :: r)[0]? = some x := rfl
    generalize x :: r = f at *
    obtain ⟨hlt2, hxe⟩ := List.getElem?_eq_some_iff.1 hx
    have hlt : (0 : Int) < (f.length : Int) := by omega
    have hw : IntKind.wrap .i64 (0 + 1) = 1 := by kernel_rfl
    simp [-St.obj, -St.set, -Int.not_le, -Int.not_lt, -Nat.not_le, -Nat.not_lt, ty3, ty4, ty25, ty27, ty49, hm, hl, hr, E51, n51_8]
    refine evK_loop c51_9 _ _ _ _ rfl ?_
    simp [-Int.natCast_add, -St.obj, -St.set, hx, hxe, hlt, hlt2, hw, hxs, hxs2, hsv, hnr, markStep, markAppend, elemsAt, w64_1, -Int.not_le, -Int.not_lt, -Nat.not_le, -Nat.not_lt, ty3, ty4, ty25, ty27, ty49, hm, hl, hr, E51, n51_8]
    refine L0 _ _ _ ?_
    simp
theorem k51 (f : List Pred) (h_f : PSm f) (fr : Fr) (st : St) (hst : st.wp ≤ st.objs.length) : callStep gS (EvF gS) 51 [.slice (encPreds f)] fr st = some (.ok (retE (copK f) (copV st.objs.length f)) (fr.map E.noMem) (copS st f)) := by
  unfold callStep
  simp only [show gS.ext 51 = none from rfl, fi51_eq, show fi51.pure = false from rfl, Bool.false_eq_true, if_false, c51 f h_f st hst]
def fi34 : FI := { body := codeOf Try.f34, ntmps := 67, results := [.tmp 6], pers := [0, 1, 2, 6, 7, 8, 9, 10], locals := [], pure := false, marks := [3000009] }
theorem fi34_eq : gS.fn 34 = some fi34 := by kernel_rfl
theorem st34 (a0 a1 a2 : V) : startFr fi34 [a0, a1, a2] = { ps := [(0, .val a0), (1, .val a1), (2, .val a2), (6, .any), (7, .any), (8, .any), (9, .any), (10, .any)], ts := [], lc := [] } := rfl
def b34 : Code := mini (codeOf Try.f34)
def c34_12 : Code := .cond (.tmp 16) .skip (.exit 0)
def c34_10 : Code := .seq (codeN b34 267) c34_12
def c34_29 : Code := codeN b34 174667
def c34_28 : Code := .cond (.tmp 44) c34_29 .skip
def c34_26 : Code := .seq (codeN b34 76363) c34_28
def c34_31 : Code := codeN b34 59979
def c34_25 : Code := .seq c34_26 c34_31
def c34_23 : Code := .seq (codeN b34 19019) c34_25
theorem e34_23 : evK gS fi34 c34_23 fr st k = opsR gS fi34 [mv 29 7 51,
 mv 30 0 29,
 mv 31 7 51,
 len1 32 31 51 3,
 cal 33 16 [(.tmp 30), (.tmp 32)] [29, 3] 3,
 ixa 34 51 29 33 0,
 ld 35 49 34 49,
 cal 36 51 [(.tmp 35)] [49] 49,
 asn 10 36 49] fr st (.seq c34_25 k) := evK_rs 7 rfl (by kernel_rfl)
def c34_22 : Code := .cond (.tmp 28) c34_23 .skip
def c34_20 : Code := .seq (codeN b34 4683) c34_22
def c34_37 : Code := codeN b34 22091
def c34_36 : Code := .cond (.tmp 56) c34_37 .skip
def c34_34 : Code := .seq (codeN b34 9803) c34_36
def c34_39 : Code := codeN b34 7755
def c34_33 : Code := .seq c34_34 c34_39
theorem e34_33 : evK gS fi34 c34_33 fr st k = evK gS fi34 c34_34 fr st (.seq c34_39 k) := rfl
def c34_19 : Code := .seq c34_20 c34_33
theorem e34_19 : evK gS fi34 c34_19 fr st k = evK gS fi34 c34_20 fr st (.seq c34_33 k) := rfl
def c34_17 : Code := .seq (codeN b34 1099) c34_19
def c34_40 : Code := codeN b34 459
def c34_15 : Code := .seq (.block 1 c34_17) c34_40
def c34_9 : Code := .seq c34_10 c34_15
def c34_8 : Code := .loop c34_9
def c34_7 : Code := .block 0 c34_8
def c34_5 : Code := .seq (codeN b34 19) c34_7
def c34_41 : Code := .seq (codeN b34 23) .ret
def c34_4 : Code := .seq c34_5 c34_41
def c34_2 : Code := .seq (codeN b34 5) c34_4
def c34_0 : Code := .seq (codeN b34 2) c34_2
theorem E34 : evK gS fi34 c34_12 fr st k = condK gS fi34 (fr.op (.tmp 16)).bool? .skip (.exit 0) fr st k ∧
 (evK gS fi34 c34_10 fr st k = opsR gS fi34 [mv 15 8 3,
 op1 16 (.binOp .gtr 3 (.tmp 15) (.const (.int .i64 0)) 3) 4] fr st (.seq c34_12 k)) ∧
 (evK gS fi34 c34_29 fr st k = opsR gS fi34 [mv 45 10 49,
 mv 46 0 29,
 mv 47 10 49,
 len1 48 47 49 3,
 cal 49 16 [(.tmp 46), (.tmp 48)] [29, 3] 3,
 mv 50 0 29,
 cal 51 29 [(.tmp 50), (.const (.string { data := #[97] }))] [29, 9] 27,
 ixa 52 49 45 49 0,
 sto 27 52 51] fr st k) ∧
 evK gS fi34 c34_28 fr st k = condK gS fi34 (fr.op (.tmp 44)).bool? c34_29 .skip fr st k ∧
 (evK gS fi34 c34_26 fr st k = opsR gS fi34 [mv 37 10 49,
 len1 38 37 49 3,
 op1 39 (.binOp .gtr 3 (.tmp 38) (.const (.int .i64 0)) 3) 4,
 mv 40 39 4,
 mk (some 41) (.move (.tmp 0)) 29 (some (3, true)),
 mk (some 42) (.call { callee := (.value (.func 16)), args := #[(.tmp 41), (.const (.int .i64 2))], argTypes := #[29, 3] }) 3 (some (3, true)),
 mk (some 43) (.binOp .eql 3 (.tmp 42) (.const (.int .i64 0)) 3) 4 (some (3, true)),
 op1 44 (.pick (.tmp 40) (.tmp 43) (.const (.bool false))) 4] fr st (.seq c34_28 k)) ∧
 (evK gS fi34 c34_31 fr st k = opsR gS fi34 [mv 53 10 49,
 asn 9 53 49] fr st k) ∧
 evK gS fi34 c34_25 fr st k = evK gS fi34 c34_26 fr st (.seq c34_31 k) ∧
 evK gS fi34 c34_22 fr st k = condK gS fi34 (fr.op (.tmp 28)).bool? c34_23 .skip fr st k ∧
 (evK gS fi34 c34_20 fr st k = opsR gS fi34 [mv 21 7 51,
 len1 22 21 51 3,
 op1 23 (.binOp .gtr 3 (.tmp 22) (.const (.int .i64 0)) 3) 4,
 mv 24 23 4,
 mk (some 25) (.move (.tmp 0)) 29 (some (3, true)),
 mk (some 26) (.call { callee := (.value (.func 16)), args := #[(.tmp 25), (.const (.int .i64 4))], argTypes := #[29, 3] }) 3 (some (3, true)),
 mk (some 27) (.binOp .eql 3 (.tmp 26) (.const (.int .i64 0)) 3) 4 (some (3, true)),
 op1 28 (.pick (.tmp 24) (.tmp 27) (.const (.bool false))) 4] fr st (.seq c34_22 k)) ∧
 (evK gS fi34 c34_37 fr st k = opsR gS fi34 [mv 57 1 49,
 mv 58 1 49,
 len1 59 58 49 3,
 op1 60 (.call { callee := (.builtin .min), args := #[(.tmp 59), (.const (.int .i64 5))], argTypes := #[3, 3] }) 3,
 op1 61 (.slice 49 (.tmp 57) none (some (.tmp 60)) none) 49,
 asn 9 61 49] fr st k) ∧
 evK gS fi34 c34_36 fr st k = condK gS fi34 (fr.op (.tmp 56)).bool? c34_37 .skip fr st k ∧
 (evK gS fi34 c34_34 fr st k = opsR gS fi34 [mv 54 0 29,
 cal 55 16 [(.tmp 54), (.const (.int .i64 12))] [29, 3] 3,
 op1 56 (.binOp .eql 3 (.tmp 55) (.const (.int .i64 0)) 3) 4] fr st (.seq c34_36 k)) ∧
 (evK gS fi34 c34_39 fr st k = opsR gS fi34 [mv 62 7 51,
 mv 63 9 49,
 op1 64 (.buildSlice 51 1 #[(0, (.tmp 63))]) 51,
 op1 65 (.call { callee := (.builtin .append), args := #[(.tmp 62), (.tmp 64)], argTypes := #[51, 51] }) 51,
 asn 7 65 51] fr st k) ∧
 (evK gS fi34 c34_17 fr st k = opsR gS fi34 [mv 19 0 29,
 cal 20 35 [(.tmp 19)] [29] 49,
 asn 9 20 49] fr st (.seq c34_19 k)) ∧
 (evK gS fi34 c34_40 fr st k = opsR gS fi34 [mv 17 8 3,
 op1 18 (.binOp .sub 3 (.tmp 17) (.const (.int .i64 1)) 3) 3,
 asn 8 18 3] fr st k) ∧
 evK gS fi34 c34_15 fr st k = evK gS fi34 c34_17 fr st (.blk 1 (.seq c34_40 k)) ∧
 evK gS fi34 c34_9 fr st k = evK gS fi34 c34_10 fr st (.seq c34_15 k) ∧
 evK gS fi34 c34_7 fr st k = evK gS fi34 c34_8 fr st (.blk 0 k) ∧
 (evK gS fi34 c34_5 fr st k = opsR gS fi34 [mv 11 0 29,
 mv 12 2 3,
 op1 13 (.binOp .add 3 (.tmp 12) (.const (.int .i64 1)) 3) 3,
 cal 14 16 [(.tmp 11), (.tmp 13)] [29, 3] 3,
 asn 8 14 3] fr st (.seq c34_7 k)) ∧
 (evK gS fi34 c34_41 fr st k = opsR gS fi34 [mv 66 7 51,
 asn 6 66 51] fr st (.seq .ret k)) ∧
 evK gS fi34 c34_4 fr st k = evK gS fi34 c34_5 fr st (.seq c34_41 k) ∧
 evK gS fi34 c34_2 fr st k = opsR gS fi34 [op1 7 (.assign (.const (.slice none 0 0))) 51] fr st (.seq c34_4 k) ∧
 evK gS fi34 c34_0 fr st k = opsR gS fi34 [op1 6 (.assign (.const (.slice none 0 0))) 51] fr st (.seq c34_2 k) := ⟨rfl, evK_rs 3 rfl (by kernel_rfl), evK_r 9 (by kernel_rfl), rfl, evK_rs 8 rfl (by kernel_rfl), evK_r 10 (by kernel_rfl), rfl, rfl, evK_rs 6 rfl (by kernel_rfl), evK_r 12 (by kernel_rfl), rfl, evK_rs 11 rfl (by kernel_rfl), evK_r 13 (by kernel_rfl), evK_rs 5 rfl (by kernel_rfl), evK_r 4 (by kernel_rfl), rfl, rfl, rfl, evK_rs 2 rfl (by kernel_rfl), evK_rs 14 rfl (by kernel_rfl), rfl, evK_rs 1 rfl (by kernel_rfl), evK_rs 0 rfl (by kernel_rfl)⟩
theorem m34 : mini fi34.body = c34_0 := by kernel_rfl
theorem n34_8 (fr : Fr) (st : St) (k : Kt) : nextK gS fi34 (.loop c34_9 k) .normal fr st = evK gS fi34 c34_8 fr st k := rfl
/-- Of one test. -/
def QSm (p : Pred) : Prop := p.name.length < 4611686018427387904 ∧ p.set.length * 48 ≤ 140737488355328
theorem psm_of {f : List Pred} (h : (∀ p ∈ f, QSm p) ∧ f.length ≤ 5) : PSm f := ⟨by omega, h.1⟩
theorem qsm_right {p : Pred} (hr : pright p = true) : QSm p := by
  refine ⟨(ok_of_right hr).1, ?_⟩
  unfold pright at hr
  split at hr
  · repeat' split at hr
    all_goals first
      | (simp only [Bool.and_eq_true, decide_eq_true_eq] at hr; omega)
      | cases hr
  · cases hr
theorem predV_qsm (l : List Int) (a j : Nat) : QSm (predV l a j [97]).1 := qsm_right (pred_right l a j rfl)
theorem filterV_qsm (l : List Int) (a j : Nat) : ∀ p ∈ (filterV l a j).1, QSm p := fun p hp => qsm_right ((filterV_ffv l a j).1.right p hp)
set_option maxHeartbeats 8000000 in
theorem T34_33 (raw : List Pred) (hraw : raw.length < 4611686018427387904) (l : List Int) (a id : Nat) (ha : a < 549755813888) (S : St) (h : FeedOk S id) (j : Nat) (hj : j < 549755812000) (L : List (List Pred)) (hL : L.length < 1000) (kl : Nat) (hkl : kl = 0 ∧ L = [] ∨ kl = 1) (r : Nat) (hr : r < 1000) (x : List Pred) (R : Out × St) (e2 e10 : E) (h2 : e2.Tame) (h10 : e10.Firm) (T : List (Nat × E)) (X : List (Nat × List V))
    (H : ∀ e9 T (h9 : e9.Tame), evK gS fi34 c34_8 { ps := [(0, .val (.ptr id 0)), (1, .val (.slice (encPreds raw))), (2, e2), (6, .own 0 []), (7, .own 1 (encPredss (L ++ [if fd l a j 12 = 0 then raw.take 5 else x]))), (8, .val (.int .i64 (r : Int))), (9, e9), (10, e10)], ts := T, lc := X } (setF S id l (nA l a (j + 1))) (.blk 0 (.seq c34_41 .nil)) = some R) :
    evK gS fi34 c34_33 { ps := [(0, .val (.ptr id 0)), (1, .val (.slice (encPreds raw))), (2, e2), (6, .own 0 []), (7, .own kl (encPredss L)), (8, .val (.int .i64 ((r + 1 : Nat) : Int))), (9, .val (.slice (encPreds x))), (10, e10)], ts := T, lc := X } (setF S id l (nA l a j)) (.blk 1 (.seq c34_40 (.loop c34_9 (.blk 0 (.seq c34_41 .nil))))) = some R := by
  have hm : fi34.marks = [3000009] := rfl
  have hl : fi34.locals = [] := rfl
  have hr : fi34.results = [.tmp 6] := rfl
  have hk := fun fr => k16 l a j id 12 fr S h ha (by omega) (by omega)
  have hw2 : IntKind.wrap .i64 (((r + 1 : Nat) : Int) - 1) = (r : Int) := by rw [wrap64 (by omega) (by omega)]; omega
  have hs1 := sizes_predss L
  have hs2 := fun x => predss_snoc L x
  have hl1 : (L.length + 1) * 24 ≤ 140737488355328 := by omega
  have hl2 : L.length + 1 ≤ 140737488355328 := by omega
  have hfr : ∀ st (f : List Pred), frz 6 st (.slice (encPreds f)) = some (.slice (encPreds f), st) := fun st f => frz_flat 6 st _ (by simp [V.flat])
  have htk : (encPreds raw).take 5 = encPreds (raw.take 5) := by simp [encPreds]
  have hsr := sizes_preds raw
  by_cases hc : fd l a j 12 = 0
  · rw [if_pos hc] at H
    by_cases h5 : 5 < raw.length
    · have hge : (5 : Int) ≤ (raw.length : Int) := by omega
      rcases hkl with ⟨rfl, rfl⟩ | rfl
      · have en : encPredss [] = [] := rfl
        rw [show encPredss ([] ++ [raw.take 5]) = [.slice (encPreds (raw.take 5))] from rfl] at H
        simp [-Int.natCast_add, -St.obj, -St.set, h5, hge, en, h2, h10, hk, hc, hw2, hfr, htk, hsr, hraw, -Int.not_le, -Int.not_lt, -Nat.not_le, -Nat.not_lt, ty3, ty4, ty9, ty27, ty29, ty49, ty51, hm, hl, hr, E34, e34_23, e34_33, e34_19, n34_8]
        exact H _ _ (tame_val _)
      · simp [-List.append_assoc, -Int.natCast_add, -St.obj, -St.set, h5, hge, h2, h10, hk, hc, hw2, hfr, htk, hsr, hs1, hs2, hl1, hl2, hraw, -Int.not_le, -Int.not_lt, -Nat.not_le, -Nat.not_lt, ty3, ty4, ty9, ty27, ty29, ty49, ty51, hm, hl, hr, E34, e34_23, e34_33, e34_19, n34_8]
        exact H _ _ (tame_val _)
    · have htk2 : (encPreds raw).take raw.length = encPreds (raw.take 5) := by
        rw [List.take_of_length_le (l := raw) (by omega), List.take_of_length_le (by simp)]
      rcases hkl with ⟨rfl, rfl⟩ | rfl
      · have en : encPredss [] = [] := rfl
        rw [show encPredss ([] ++ [raw.take 5]) = [.slice (encPreds (raw.take 5))] from rfl] at H
        simp [-Int.natCast_add, -St.obj, -St.set, h5, en, h2, h10, hk, hc, hw2, hfr, htk2, hsr, hraw, -Int.not_le, -Int.not_lt, -Nat.not_le, -Nat.not_lt, ty3, ty4, ty9, ty27, ty29, ty49, ty51, hm, hl, hr, E34, e34_23, e34_33, e34_19, n34_8]
        exact H _ _ (tame_val _)
      · simp [-List.append_assoc, -Int.natCast_add, -St.obj, -St.set, h5, h2, h10, hk, hc, hw2, hfr, htk2, hsr, hs1, hs2, hl1, hl2, hraw, -Int.not_le, -Int.not_lt, -Nat.not_le, -Nat.not_lt, ty3, ty4, ty9, ty27, ty29, ty49, ty51, hm, hl, hr, E34, e34_23, e34_33, e34_19, n34_8]
        exact H _ _ (tame_val _)
  · rw [if_neg hc] at H
    rcases hkl with ⟨rfl, rfl⟩ | rfl
    · have en : encPredss [] = [] := rfl
      rw [show encPredss ([] ++ [x]) = [.slice (encPreds x)] from rfl] at H
      simp [-Int.natCast_add, -St.obj, -St.set, en, h2, h10, hk, hc, hw2, -Int.not_le, -Int.not_lt, -Nat.not_le, -Nat.not_lt, ty3, ty4, ty9, ty27, ty29, ty49, ty51, hm, hl, hr, E34, e34_23, e34_33, e34_19, n34_8]
      exact H _ _ (tame_val _)
    · simp [-List.append_assoc, -Int.natCast_add, -St.obj, -St.set, h2, h10, hk, hc, hw2, hs1, hs2, hl1, hl2, -Int.not_le, -Int.not_lt, -Nat.not_le, -Nat.not_lt, ty3, ty4, ty9, ty27, ty29, ty49, ty51, hm, hl, hr, E34, e34_23, e34_33, e34_19, n34_8]
      exact H _ _ (tame_val _)
set_option maxHeartbeats 8000000 in
theorem T34_23 (raw : List Pred) (l : List Int) (a id : Nat) (ha : a < 549755813888) (st : St) (h : FeedOk st id) (j m : Nat) (hj : j < 549755810000) (L : List (List Pred)) (hL : L.length < 1000) (y : List Pred) (hy : L[(fd l a j L.length).toNat]? = some y) (hps : PSm y) (kl : Nat) (r : Nat) (R : Out × St) (e2 e9 e10 : E) (h2 : e2.Tame) (h9 : e9.Tame) (h10 : e10.Firm) (T : List (Nat × E)) (X : List (Nat × List V))
    (H : ∀ e10 T (h10 : e10.Firm), evK gS fi34 c34_33 { ps := [(0, .val (.ptr id 0)), (1, .val (.slice (encPreds raw))), (2, e2), (6, .own 0 []), (7, .own kl (encPredss L)), (8, .val (.int .i64 ((r + 1 : Nat) : Int))), (9, .val (.slice (encPreds (turnF l a y (j + 1)).1))), (10, e10)], ts := T, lc := X } (setF (dd st (m + (turnF l a y (j + 1)).2.2)) id l (nA l a (turnF l a y (j + 1)).2.1)) (.blk 1 (.seq c34_40 (.loop c34_9 (.blk 0 (.seq c34_41 .nil))))) = some R) :
    evK gS fi34 c34_23 { ps := [(0, .val (.ptr id 0)), (1, .val (.slice (encPreds raw))), (2, e2), (6, .own 0 []), (7, .own kl (encPredss L)), (8, .val (.int .i64 ((r + 1 : Nat) : Int))), (9, e9), (10, e10)], ts := T, lc := X } (setF (dd st m) id l (nA l a j)) (.seq c34_33 (.blk 1 (.seq c34_40 (.loop c34_9 (.blk 0 (.seq c34_41 .nil)))))) = some R := by
  have hm : fi34.marks = [3000009] := rfl
  have hl : fi34.locals = [] := rfl
  have hr : fi34.results = [.tmp 6] := rfl
  obtain ⟨hlt2, hye⟩ := List.getElem?_eq_some_iff.1 hy
  have hpos : 0 < L.length := by omega
  have hb := fd_bound l a j (n := (L.length : Int)) (by omega)
  have hk1 := fun fr => k16 l a j id L.length fr (dd st m) (h.dd m) ha (by omega) (by omega)
  obtain ⟨i, hi⟩ : ∃ i : Nat, fd l a j L.length = (i : Int) := ⟨(fd l a j L.length).toNat, by omega⟩
  rw [hi, Int.toNat_natCast] at hy
  rw [hi] at hb hk1
  have hlt3 : i < L.length := by omega
  have hye2 : L[i]'hlt3 = y := (List.getElem?_eq_some_iff.1 hy).2
  have hwp : (setF (dd st m) id l (nA l a (j + 1))).wp ≤ (setF (dd st m) id l (nA l a (j + 1))).objs.length := by
    rw [setF_wp, setF_len, dd_wp, dd_len]; have := h.1; have := h.2; omega
  have hk2 := fun fr => k51 y hps fr (setF (dd st m) id l (nA l a (j + 1))) hwp
  by_cases hyn : y = []
  · subst hyn
    have e1 : turnF l a [] (j + 1) = ([], j + 1, 0) := by unfold turnF; rw [if_pos rfl]
    rw [e1] at H
    simp only [copV, copK, copS, if_true] at hk2
    rw [show encPreds [] = [] from rfl] at H hk2
    have hey : encPreds [] = [] := rfl
    simp [-Int.natCast_add, -St.obj, -St.set, h2, h9, h10, hk1, hk2, hy, hye2, hlt3, hb, hey, -Int.not_le, -Int.not_lt, -Nat.not_le, -Nat.not_lt, ty3, ty4, ty9, ty27, ty29, ty49, ty51, hm, hl, hr, E34, e34_23, e34_19, n34_8]
    exact H _ _ (firm_own _ _)
  · have hn1 : 0 < y.length := List.length_pos_iff.2 hyn
    have e2 : copS (setF (dd st m) id l (nA l a (j + 1))) y = setF (nw st (m + (y.length - 1)) (y.flatMap Pred.cells)) id l (nA l a (j + 1)) := by
      unfold copS; rw [if_neg hyn, setF_gr (h.dd m), nw_dd]
    have e3 : copV (setF (dd st m) id l (nA l a (j + 1))).objs.length y = .sref false 13 (st.objs.length + (m + (y.length - 1))) 0 y.length := by
      unfold copV; rw [if_neg hyn, setF_len, dd_len, Nat.add_assoc]
    have e4 : copK y = none := by unfold copK; rw [if_neg hyn]
    rw [e2, e3, e4] at hk2
    simp only [retE] at hk2
    have hyl := hps.1
    generalize hq : m + (y.length - 1) = q at *
    have hk3 := fun fr => k16 l a (j + 1) id 2 fr (nw st q (y.flatMap Pred.cells)) (h.nw q _) ha (by omega) (by omega)
    have hgt : (0 : Int) < (y.length : Int) := by omega
    by_cases hc : fd l a (j + 1) 2 = 0
    · have e5 : turnF l a y (j + 1) = (y.take (fd l a (j + 2) y.length).toNat ++ [(predV l a (j + 3) [97]).1] ++ y.drop ((fd l a (j + 2) y.length).toNat + 1), j + 3 + (predV l a (j + 3) [97]).2, y.length + (predV l a (j + 3) [97]).1.set.length) := by
        unfold turnF; rw [if_neg hyn, if_pos hc]
      rw [e5] at H
      have hk4 := fun fr => k16 l a (j + 2) id y.length fr (nw st q (y.flatMap Pred.cells)) (h.nw q _) ha (by omega) (by omega)
      have hb2 := fd_bound l a (j + 2) (n := (y.length : Int)) (by omega)
      obtain ⟨i2, hi2⟩ : ∃ i : Nat, fd l a (j + 2) y.length = (i : Int) := ⟨(fd l a (j + 2) y.length).toNat, by omega⟩
      rw [hi2] at hb2 hk4 H
      rw [Int.toNat_natCast] at H
      have hk5 := fun fr => k29 l a (j + 3) id [97] fr (nw st q (y.flatMap Pred.cells)) (h.nw q _) ha (by omega)
      have hpa := pred_asks l a (j + 3) [97]
      generalize predV l a (j + 3) [97] = P at *
      obtain ⟨p, cnt⟩ := P
      simp only at hk5 H hpa
      have hob := obj_mid h q p.set.length (y.flatMap Pred.cells) l (nA l a (j + 3 + cnt))
      have hst := fun cs' => set_mid' h q p.set.length (y.flatMap Pred.cells) cs' l (nA l a (j + 3 + cnt))
      have hspl := row_splices Pred.cells 13 pcells_len y [p] i2 (by simp; omega)
      have hpc : [p].flatMap Pred.cells = p.cells := by simp
      rw [List.length_singleton, hpc] at hspl
      simp only [Pred.cells] at hspl
      have hyl2 : (y.take i2 ++ [p] ++ y.drop (i2 + 1)).length = y.length := by simp; omega
      have hne2 : y.take i2 ++ [p] ++ y.drop (i2 + 1) ≠ [] := by simp
      have hz := frz_preds 5 (st.objs.length + q) (y.take i2 ++ [p] ++ y.drop (i2 + 1)) hne2 (obj_mid h q p.set.length _ l (nA l a (j + 3 + cnt))) (set_mid h q p.set.length _ l (nA l a (j + 3 + cnt)))
      rw [hyl2] at hz
      have hdd : q + 1 + p.set.length = m + (y.length + p.set.length) := by omega
      rw [hdd] at hz
      generalize y.take i2 ++ [p] ++ y.drop (i2 + 1) = y2 at *
      have c1 : (i2 : Int) < (y.length : Int) := by omega
      have c2 : i2 < y.length := by omega
      simp [-Int.natCast_add, -St.obj, -St.set, -splice, -List.flatMap_append, h2, h9, h10, hk1, hk2, hk3, hk4, hk5, hy, hye2, hlt3, hb, hgt, hc, hn1, hob, hst, hspl, hz, c1, c2, -Int.not_le, -Int.not_lt, -Nat.not_le, -Nat.not_lt, ty3, ty4, ty9, ty27, ty29, ty49, ty51, hm, hl, hr, E34, e34_23, e34_19, n34_8]
      exact H _ _ (firm_val _)
    · have e5 : turnF l a y (j + 1) = (y, j + 2, y.length) := by unfold turnF; rw [if_neg hyn, if_neg hc]
      rw [e5] at H
      have hz := frz_preds 5 (st.objs.length + q) y hyn (obj_gr h q _ l (nA l a (j + 2))) (set_gr h q _ l (nA l a (j + 2)))
      have hdd : q + 1 = m + y.length := by omega
      rw [hdd] at hz
      simp [-Int.natCast_add, -St.obj, -St.set, h2, h9, h10, hk1, hk2, hk3, hy, hye2, hlt3, hb, hgt, hc, hn1, hz, -Int.not_le, -Int.not_lt, -Nat.not_le, -Nat.not_lt, ty3, ty4, ty9, ty27, ty29, ty49, ty51, hm, hl, hr, E34, e34_23, e34_19, n34_8]
      exact H _ _ (firm_val _)
set_option maxHeartbeats 8000000 in
theorem T34_19 (raw : List Pred) (l : List Int) (a id : Nat) (ha : a < 549755813888) (st : St) (h : FeedOk st id) (j m : Nat) (hj : j < 549755809000) (L : List (List Pred)) (hL : L.length < 1000) (hps : ∀ f ∈ L, PSm f) (f : List Pred) (kl : Nat) (r : Nat) (R : Out × St) (e2 e10 : E) (h2 : e2.Tame) (h10 : e10.Firm) (T : List (Nat × E)) (X : List (Nat × List V))
    (H : ∀ e10 T (h10 : e10.Firm), evK gS fi34 c34_33 { ps := [(0, .val (.ptr id 0)), (1, .val (.slice (encPreds raw))), (2, e2), (6, .own 0 []), (7, .own kl (encPredss L)), (8, .val (.int .i64 ((r + 1 : Nat) : Int))), (9, .val (.slice (encPreds (halfF l a L f j).1))), (10, e10)], ts := T, lc := X } (setF (dd st (m + (halfF l a L f j).2.2)) id l (nA l a (halfF l a L f j).2.1)) (.blk 1 (.seq c34_40 (.loop c34_9 (.blk 0 (.seq c34_41 .nil))))) = some R) :
    evK gS fi34 c34_19 { ps := [(0, .val (.ptr id 0)), (1, .val (.slice (encPreds raw))), (2, e2), (6, .own 0 []), (7, .own kl (encPredss L)), (8, .val (.int .i64 ((r + 1 : Nat) : Int))), (9, .val (.slice (encPreds f))), (10, e10)], ts := T, lc := X } (setF (dd st m) id l (nA l a j)) (.blk 1 (.seq c34_40 (.loop c34_9 (.blk 0 (.seq c34_41 .nil))))) = some R := by
  have hm : fi34.marks = [3000009] := rfl
  have hl : fi34.locals = [] := rfl
  have hr : fi34.results = [.tmp 6] := rfl
  by_cases hLn : L = []
  · subst hLn
    have e1 : halfF l a [] f j = (f, j, 0) := by unfold halfF; rw [if_pos rfl]
    rw [e1] at H
    have en : encPredss [] = [] := rfl
    rw [en] at H ⊢
    simp [-Int.natCast_add, -St.obj, -St.set, h2, h10, -Int.not_le, -Int.not_lt, -Nat.not_le, -Nat.not_lt, ty3, ty4, ty9, ty27, ty29, ty49, ty51, hm, hl, hr, E34, e34_19, n34_8]
    exact H _ _ h10
  · have hpos : 0 < L.length := List.length_pos_iff.2 hLn
    have hgt : (0 : Int) < (L.length : Int) := by omega
    have hk1 := fun fr => k16 l a j id 4 fr (dd st m) (h.dd m) ha (by omega) (by omega)
    by_cases hc : fd l a j 4 = 0
    · have e1 : halfF l a L f j = turnF l a (L.getD (fd l a (j + 1) L.length).toNat []) (j + 2) := by unfold halfF; rw [if_neg hLn, if_pos hc]
      rw [e1] at H
      have hb := fd_bound l a (j + 1) (n := (L.length : Int)) (by omega)
      have hi : (fd l a (j + 1) L.length).toNat < L.length := by omega
      rw [List.getD_eq_getElem?_getD, List.getElem?_eq_getElem hi, Option.getD_some] at H
      have TT := fun e9 T h9 => T34_23 raw l a id ha st h (j + 1) m (by omega) L hL _ (List.getElem?_eq_getElem hi) (hps _ (List.getElem_mem hi)) kl r R e2 e9 e10 h2 h9 h10 T X H
      simp [-Int.natCast_add, -St.obj, -St.set, h2, h10, hk1, hgt, hpos, hc, -Int.not_le, -Int.not_lt, -Nat.not_le, -Nat.not_lt, ty3, ty4, ty9, ty27, ty29, ty49, ty51, hm, hl, hr, E34, e34_19, n34_8]
      exact TT _ _ (tame_val _)
    · have e1 : halfF l a L f j = (f, j + 1, 0) := by unfold halfF; rw [if_neg hLn, if_neg hc]
      rw [e1] at H
      simp [-Int.natCast_add, -St.obj, -St.set, h2, h10, hk1, hgt, hpos, hc, -Int.not_le, -Int.not_lt, -Nat.not_le, -Nat.not_lt, ty3, ty4, ty9, ty27, ty29, ty49, ty51, hm, hl, hr, E34, e34_19, n34_8]
      exact H _ _ h10
/-- How much room a row's cells take that was laid one by one. -/
def kof {α : Type} (k : Nat) (l : List α) : Nat := if l = [] then 0 else k
theorem kof_snoc {α : Type} (k : Nat) (l : List α) (x : α) : kof k (l ++ [x]) = k := by unfold kof; rw [if_neg (by simp)]
theorem kof_or {α : Type} (k : Nat) (l : List α) : kof k l = 0 ∧ l = [] ∨ kof k l = k := by
  unfold kof; split
  · exact .inl ⟨rfl, by assumption⟩
  · exact .inr rfl
set_option maxHeartbeats 8000000 in
theorem L34 (raw : List Pred) (hraw : raw.length < 4611686018427387904) (hrq : ∀ p ∈ raw, QSm p) (l : List Int) (a id : Nat) (ha : a < 549755813888) (st : St) (h : FeedOk st id) : ∀ (r j m : Nat) (L : List (List Pred)) (e2 e9 e10 : E) (h2 : e2.Tame) (h9 : e9.Tame) (h10 : e10.Firm) (T : List (Nat × E)) (X : List (Nat × List V)),
    L.length + r < 1000 → (∀ f ∈ L, (∀ p ∈ f, QSm p) ∧ f.length ≤ 5) → j + 49 * r < 549755800000 →
    evK gS fi34 c34_8 { ps := [(0, .val (.ptr id 0)), (1, .val (.slice (encPreds raw))), (2, e2), (6, .own 0 []), (7, .own (kof 1 L) (encPredss L)), (8, .val (.int .i64 (r : Int))), (9, e9), (10, e10)], ts := T, lc := X } (setF (dd st m) id l (nA l a j)) (.blk 0 (.seq c34_41 .nil)) = some (.ret (.slice (encPredss (filtersG raw l a r L j m).1)) (some (kof 1 (filtersG raw l a r L j m).1)), setF (dd st (filtersG raw l a r L j m).2.2) id l (nA l a (filtersG raw l a r L j m).2.1)) := by
  intro r
  have hm : fi34.marks = [3000009] := rfl
  have hl : fi34.locals = [] := rfl
  have hr : fi34.results = [.tmp 6] := rfl
  induction r with
  | zero =>
    intro j m L e2 e9 e10 h2 h9 h10 T X hLr hLq hj
    rw [show filtersG raw l a 0 L j m = (L, j, m) from rfl]
    refine evK_loop c34_9 _ _ _ _ rfl ?_
    rcases kof_or 1 L with ⟨hk0, rfl⟩ | hk0
    · have en : encPredss [] = [] := rfl
      rw [hk0, en]
      simp [-Int.natCast_add, -St.obj, -St.set, h2, h9, h10, -Int.not_le, -Int.not_lt, -Nat.not_le, -Nat.not_lt, ty3, ty4, ty9, ty27, ty29, ty49, ty51, hm, hl, hr, E34, e34_19, n34_8]
    · rw [hk0]
      simp [-Int.natCast_add, -St.obj, -St.set, h2, h9, h10, -Int.not_le, -Int.not_lt, -Nat.not_le, -Nat.not_lt, ty3, ty4, ty9, ty27, ty29, ty49, ty51, hm, hl, hr, E34, e34_19, n34_8]
  | succ r ih =>
    intro j m L e2 e9 e10 h2 h9 h10 T X hLr hLq hj
    have hsa := stepF_asks raw l a L j
    have hsq := stepF_all (P := QSm) (k := 5) raw l a hrq (predV_qsm l a) (filterV_qsm l a) (Nat.le_refl _) L hLq j
    have hg : filtersG raw l a (r + 1) L j m = filtersG raw l a r (L ++ [(stepF raw l a L j).1]) (stepF raw l a L j).2.1 (m + (stepF raw l a L j).2.2) := rfl
    rw [hg]
    have hLq2 : ∀ f ∈ L ++ [(stepF raw l a L j).1], (∀ p ∈ f, QSm p) ∧ f.length ≤ 5 := fun f hf => by
      rcases List.mem_append.1 hf with h' | h'
      · exact hLq f h'
      · simp at h'; subst h'; exact hsq
    have IH2 := fun e9 e10 h9 h10 T => ih (stepF raw l a L j).2.1 (m + (stepF raw l a L j).2.2) (L ++ [(stepF raw l a L j).1]) e2 e9 e10 h2 h9 h10 T X (by simp; omega) hLq2 (by omega)
    rw [kof_snoc] at IH2
    generalize hR : (Out.ret (V.slice (encPredss (filtersG raw l a r (L ++ [(stepF raw l a L j).1]) (stepF raw l a L j).2.1 (m + (stepF raw l a L j).2.2)).1)) (some (kof 1 (filtersG raw l a r (L ++ [(stepF raw l a L j).1]) (stepF raw l a L j).2.1 (m + (stepF raw l a L j).2.2)).1)), setF (dd st (filtersG raw l a r (L ++ [(stepF raw l a L j).1]) (stepF raw l a L j).2.1 (m + (stepF raw l a L j).2.2)).2.2) id l (nA l a (filtersG raw l a r (L ++ [(stepF raw l a L j).1]) (stepF raw l a L j).2.1 (m + (stepF raw l a L j).2.2)).2.1)) = R at IH2 ⊢
    clear hR
    have hk35 := fun fr => k35 l a j id fr (dd st m) (h.dd m) ha (by omega)
    rw [dd_dd] at hk35
    have hfa := filterV_asks l a j
    have hha := halfF_asks l a L (filterV l a j).1 (filterV l a j).2.1
    unfold stepF at IH2
    simp only at IH2
    have T33 := fun e10 h10 T => T34_33 raw hraw l a id ha (dd st (m + ((filterV l a j).2.2 + (halfF l a L (filterV l a j).1 (filterV l a j).2.1).2.2))) (h.dd _) (halfF l a L (filterV l a j).1 (filterV l a j).2.1).2.1 (by omega) L (by omega) (kof 1 L) (kof_or 1 L) r (by omega) (halfF l a L (filterV l a j).1 (filterV l a j).2.1).1 R e2 e10 h2 h10 T X (fun e9 T h9 => IH2 e9 e10 h9 h10 T)
    rw [← Nat.add_assoc] at T33
    have T19 := fun e10 h10 T => T34_19 raw l a id ha st h (filterV l a j).2.1 (m + (filterV l a j).2.2) (by omega) L (by omega) (fun f hf => psm_of (hLq f hf)) (filterV l a j).1 (kof 1 L) r R e2 e10 h2 h10 T X (fun e10 T h10 => T33 e10 h10 T)
    have hpos : (0 : Int) < ((r + 1 : Nat) : Int) := by omega
    have hfr : ∀ st (f : List Pred), frz 6 st (.slice (encPreds f)) = some (.slice (encPreds f), st) := fun st f => frz_flat 6 st _ (by simp [V.flat])
    refine evK_loop c34_9 _ _ _ _ rfl ?_
    simp [-Int.natCast_add, -St.obj, -St.set, h2, h9, h10, hk35, hpos, hfr, -Int.not_le, -Int.not_lt, -Nat.not_le, -Nat.not_lt, ty3, ty4, ty9, ty27, ty29, ty49, ty51, hm, hl, hr, E34, n34_8]
    exact T19 _ h10 _
set_option maxHeartbeats 8000000 in
theorem c34 (raw : List Pred) (hraw : raw.length < 4611686018427387904) (hrq : ∀ p ∈ raw, QSm p) (l : List Int) (a j id : Nat) (n : Int) (hn0 : 0 ≤ n) (hn : n < 900) (st : St) (h : FeedOk st id) (ha : a < 549755813888) (hj : j < 549755700000) :
    EvF gS 34 [.ptr id 0, .slice (encPreds raw), .int .i64 n] (setF st id l (nA l a j)) = some (.ret (.slice (encPredss (filtersV raw l a j n).1)) (some (kof 1 (filtersV raw l a j n).1)), setF (dd st (filtersV raw l a j n).2.2) id l (nA l a (filtersV raw l a j n).2.1)) := by
  refine EvF_start fi34_eq (fun x h => by cases h) m34 ?_
  rw [st34]
  have hm : fi34.marks = [3000009] := rfl
  have hl : fi34.locals = [] := rfl
  have hr : fi34.results = [.tmp 6] := rfl
  have hb := fd_bound l a j (n := n + 1) (by omega)
  have hw : IntKind.wrap .i64 (n + 1) = n + 1 := wrap64 (by omega) (by omega)
  have hk := fun fr => k16 l a j id (n + 1) fr st h ha (by omega) (by omega)
  unfold filtersV
  generalize fd l a j (n + 1) = z at *
  obtain ⟨r, rfl⟩ : ∃ r : Nat, z = (r : Int) := ⟨z.toNat, by omega⟩
  rw [Int.toNat_natCast]
  have L0 := fun e2 e9 e10 h2 h9 h10 T X => L34 raw hraw hrq l a id ha st h r (j + 1) 0 [] e2 e9 e10 h2 h9 h10 T X (by simp; omega) (by simp) (by omega)
  rw [dd_zero, show kof 1 ([] : List (List Pred)) = 0 from rfl, show encPredss [] = [] from rfl] at L0
  simp [-Int.natCast_add, -St.obj, -St.set, hk, hw, L0, -Int.not_le, -Int.not_lt, -Nat.not_le, -Nat.not_lt, ty3, ty4, ty9, ty27, ty29, ty49, ty51, hm, hl, hr, E34, e34_19, n34_8]
theorem k34 (raw : List Pred) (hraw : raw.length < 4611686018427387904) (hrq : ∀ p ∈ raw, QSm p) (l : List Int) (a j id : Nat) (n : Int) (hn0 : 0 ≤ n) (hn : n < 900) (fr : Fr) (st : St) (h : FeedOk st id) (ha : a < 549755813888) (hj : j < 549755700000) :
    callStep gS (EvF gS) 34 [.ptr id 0, .slice (encPreds raw), .int .i64 n] fr (setF st id l (nA l a j)) = some (.ok (.own (kof 1 (filtersV raw l a j n).1) (encPredss (filtersV raw l a j n).1)) (fr.map E.noMem) (setF (dd st (filtersV raw l a j n).2.2) id l (nA l a (filtersV raw l a j n).2.1))) := by
  unfold callStep
  simp only [show gS.ext 34 = none from rfl, fi34_eq, show fi34.pure = false from rfl, Bool.false_eq_true, if_false, c34 raw hraw hrq l a j id n hn0 hn st h ha hj, retE]
end
end Go.Proofs.Ytclpbfkbpcjejaa
namespace Go.Proofs.Ytclpbfkbpcjejaa
open Go Go.Ab
set_option linter.unusedVariables false
set_option linter.unusedSimpArgs false
set_option linter.unnecessarySimpa false
set_option maxRecDepth 20000
noncomputable section
variable (fr : Fr) (st : St) (k : Kt)
def fi46 : FI := { body := codeOf Try.f46, ntmps := 2, results := [.tmp 0], pers := [0], locals := [], pure := true, marks := [] }
theorem fi46_eq : gS.fn 46 = some fi46 := by kernel_rfl
theorem x46 : gS.ext 46 = none := rfl
theorem p46 : fi46.pure = true := rfl
theorem k46 (fr : Fr) (st : St) : callStep gS (EvF gS) 46 [] fr st = some (.ok (.val (.bool true)) fr st) := by
  have hc : EvF gS 46 [] ⟨[], 0⟩ = some (.ret (.bool true) none, ⟨[], 0⟩) := Evn.lim ⟨400, fun n hn => by
    obtain ⟨m, rfl⟩ : ∃ m, n = m + 400 := ⟨n - 400, by omega⟩
    kernel_rfl⟩
  exact call_pure' rfl fi46_eq rfl rfl ⟨_, hc⟩ rfl
theorem vsame_refl (a : Val) : vsame a a = true := by simp [vsame]
theorem sames_refl : ∀ l : List Val, sames l l = true
  | [] => rfl
  | a :: r => by simp [sames, vsame_refl, sames_refl r]
theorem psame_refl (p : Pred) : psame p p = true := by simp [psame, vsame_refl, sames_refl]
theorem fsames_refl : ∀ l : List Pred, fsames l l = true
  | [] => rfl
  | a :: r => by simp [fsames, psame_refl, fsames_refl r]
theorem fsame_refl (f : List Pred) : fsame f f = true := by simp [fsame, fsames_refl]
theorem freduce_mem {l : List (List Pred)} : ∀ {row : List (List Pred)} {g : List Pred}, g ∈ l.foldl fredStep row → g ∈ row ∨ g ∈ l := by
  induction l with
  | nil => intro row g h; exact .inl h
  | cons f r ih =>
    intro row g h
    rcases ih h with h | h
    · rcases fredStep_mem h with h | rfl
      · exact .inl h
      · exact .inr (by simp)
    · exact .inr (by simp [h])
theorem freduce_len {l : List (List Pred)} : ∀ (row : List (List Pred)), (l.foldl fredStep row).length ≤ row.length + l.length := by
  induction l with
  | nil => intro row; simp
  | cons f r ih =>
    intro row
    have := ih (fredStep row f)
    have := fredStep_len row f
    simp only [List.foldl_cons, List.length_cons]; omega
def fi8 : FI := { body := codeOf Try.f8, ntmps := 45, results := [.tmp 4], pers := [0, 1, 4, 5, 6, 7, 8, 9], locals := [], pure := false, marks := [] }
theorem fi8_eq : gS.fn 8 = some fi8 := by kernel_rfl
theorem st8 (a0 a1 : V) : startFr fi8 [a0, a1] = { ps := [(0, .val a0), (1, .val a1), (4, .any), (5, .any), (6, .any), (7, .any), (8, .any), (9, .any)], ts := [], lc := [] } := rfl
def b8 : Code := mini (codeOf Try.f8)
def c8_14 : Code := .seq (codeN b8 607) .ret
def c8_13 : Code := .cond (.tmp 28) c8_14 .skip
def c8_11 : Code := .seq (codeN b8 159) c8_13
def c8_26 : Code := .cond (.tmp 32) .skip (.exit 0)
def c8_24 : Code := .seq (codeN b8 4287) c8_26
def r8_32 : Array Oper := regOps (codeN (codeOf Try.f8) 17599)
def c8_32 : Code := .region 10 r8_32 true
def q8_32 : List (Oper × Fl) := [(mv 35 7 51, ⟨true, false, true, false, false, false, true, true, false, false, []⟩),
 (mv 36 9 3, ⟨true, false, true, false, false, false, true, true, false, false, []⟩),
 (ixa 37 51 35 36 0, ⟨true, false, true, false, false, false, true, true, false, false, []⟩),
 (ld 38 49 37 49, ⟨true, false, true, false, false, false, true, true, false, false, []⟩),
 (mv 39 8 51, ⟨true, false, true, false, false, false, true, true, false, false, []⟩),
 (mv 40 9 3, ⟨true, false, true, false, true, false, true, true, false, false, []⟩),
 (ixa 41 51 39 40 0, ⟨true, false, true, false, true, false, true, true, false, false, []⟩),
 (ld 42 49 41 49, ⟨true, false, true, false, true, false, true, true, false, false, []⟩),
 (cal 43 42 [(.tmp 38), (.tmp 42)] [49, 49] 4, ⟨true, true, true, false, true, true, true, true, false, false, []⟩),
 (op1 44 (.unOp .not 4 (.tmp 43)) 4, ⟨true, true, true, false, true, false, true, true, false, false, []⟩)]
def c8_34 : Code := .seq (codeN b8 74943) .ret
def c8_33 : Code := .cond (.tmp 44) c8_34 .skip
def c8_31 : Code := .seq c8_32 c8_33
def c8_38 : Code := codeN b8 7359
def c8_29 : Code := .seq (.block 1 c8_31) c8_38
def c8_23 : Code := .seq c8_24 c8_29
def c8_22 : Code := .loop c8_23
def c8_21 : Code := .block 0 c8_22
def c8_19 : Code := .seq (codeN b8 319) c8_21
def c8_39 : Code := .seq (codeN b8 383) .ret
def c8_18 : Code := .seq c8_19 c8_39
def c8_10 : Code := .seq c8_11 c8_18
def c8_8 : Code := .seq (codeN b8 47) c8_10
def c8_6 : Code := .seq (codeN b8 23) c8_8
def c8_4 : Code := .seq (codeN b8 11) c8_6
def c8_2 : Code := .seq (codeN b8 5) c8_4
def c8_0 : Code := .seq (codeN b8 2) c8_2
theorem E8 : evK gS fi8 c8_14 fr st k = opsR gS fi8 [op1 4 (.assign (.const (.bool false))) 4] fr st (.seq .ret k) ∧
 evK gS fi8 c8_13 fr st k = condK gS fi8 (fr.op (.tmp 28)).bool? c8_14 .skip fr st k ∧
 (evK gS fi8 c8_11 fr st k = opsR gS fi8 [cal 20 46 [] [] 4,
 op1 21 (.unOp .not 4 (.tmp 20)) 4,
 mv 22 21 4,
 mk (some 23) (.move (.tmp 7)) 51 (some (2, false)),
 mk (some 24) (.call { callee := (.builtin .len), args := #[(.tmp 23)], argTypes := #[51] }) 3 (some (2, false)),
 mk (some 25) (.move (.tmp 8)) 51 (some (2, false)),
 mk (some 26) (.call { callee := (.builtin .len), args := #[(.tmp 25)], argTypes := #[51] }) 3 (some (2, false)),
 mk (some 27) (.binOp .neq 3 (.tmp 24) (.tmp 26) 3) 4 (some (2, false)),
 op1 28 (.pick (.tmp 22) (.const (.bool true)) (.tmp 27)) 4] fr st (.seq c8_13 k)) ∧
 evK gS fi8 c8_26 fr st k = condK gS fi8 (fr.op (.tmp 32)).bool? .skip (.exit 0) fr st k ∧
 (evK gS fi8 c8_24 fr st k = opsR gS fi8 [mv 29 9 3,
 mv 30 7 51,
 len1 31 30 51 3,
 bop 32 .lss 3 29 31 3 4] fr st (.seq c8_26 k)) ∧
 evK gS fi8 c8_32 fr st k = drwR gS fi8 r8_32 q8_32 fr st k ∧
 evK gS fi8 c8_34 fr st k = opsR gS fi8 [op1 4 (.assign (.const (.bool false))) 4] fr st (.seq .ret k) ∧
 evK gS fi8 c8_33 fr st k = condK gS fi8 (fr.op (.tmp 44)).bool? c8_34 .skip fr st k ∧
 evK gS fi8 c8_31 fr st k = evK gS fi8 c8_32 fr st (.seq c8_33 k) ∧
 (evK gS fi8 c8_38 fr st k = opsR gS fi8 [mv 33 9 3,
 op1 34 (.binOp .add 3 (.tmp 33) (.const (.int .i64 1)) 3) 3,
 asn 9 34 3] fr st k) ∧
 evK gS fi8 c8_29 fr st k = evK gS fi8 c8_31 fr st (.blk 1 (.seq c8_38 k)) ∧
 evK gS fi8 c8_23 fr st k = evK gS fi8 c8_24 fr st (.seq c8_29 k) ∧
 evK gS fi8 c8_21 fr st k = evK gS fi8 c8_22 fr st (.blk 0 k) ∧
 evK gS fi8 c8_19 fr st k = opsR gS fi8 [op1 9 (.assign (.const (.int .i64 0))) 3] fr st (.seq c8_21 k) ∧
 evK gS fi8 c8_39 fr st k = opsR gS fi8 [op1 4 (.assign (.const (.bool true))) 4] fr st (.seq .ret k) ∧
 evK gS fi8 c8_18 fr st k = evK gS fi8 c8_19 fr st (.seq c8_39 k) ∧
 evK gS fi8 c8_10 fr st k = evK gS fi8 c8_11 fr st (.seq c8_18 k) ∧
 (evK gS fi8 c8_8 fr st k = opsR gS fi8 [mv 18 6 51,
 cal 19 50 [(.tmp 18)] [51] 51,
 asn 8 19 51] fr st (.seq c8_10 k)) ∧
 (evK gS fi8 c8_6 fr st k = opsR gS fi8 [mv 16 6 51,
 cal 17 49 [(.tmp 16)] [51] 51,
 asn 7 17 51] fr st (.seq c8_8 k)) ∧
 (evK gS fi8 c8_4 fr st k = opsR gS fi8 [mv 13 5 29,
 mv 14 0 49,
 cal 15 34 [(.tmp 13), (.tmp 14), (.const (.int .i64 7))] [29, 49, 3] 51,
 asn 6 15 51] fr st (.seq c8_6 k)) ∧
 (evK gS fi8 c8_2 fr st k = opsR gS fi8 [mv 10 1 28,
 op1 11 (.build 31 #[(0, (.tmp 10))]) 31,
 op1 12 (.box 31 (.tmp 11)) 29,
 asn 5 12 29] fr st (.seq c8_4 k)) ∧
 evK gS fi8 c8_0 fr st k = opsR gS fi8 [op1 4 (.assign (.const (.bool false))) 4] fr st (.seq c8_2 k) := ⟨evK_rs 6 rfl (by kernel_rfl), rfl, evK_rs 5 rfl (by kernel_rfl), rfl, evK_rs 8 rfl (by kernel_rfl), evK_dr 10 rfl (by kernel_rfl) (by kernel_rfl), evK_rs 11 rfl (by kernel_rfl), rfl, rfl, evK_r 9 (by kernel_rfl), rfl, rfl, rfl, evK_rs 7 rfl (by kernel_rfl), evK_rs 12 rfl (by kernel_rfl), rfl, rfl, evK_rs 4 rfl (by kernel_rfl), evK_rs 3 rfl (by kernel_rfl), evK_rs 2 rfl (by kernel_rfl), evK_rs 1 rfl (by kernel_rfl), evK_rs 0 rfl (by kernel_rfl)⟩
theorem m8 : mini fi8.body = c8_0 := by kernel_rfl
theorem n8_22 (fr : Fr) (st : St) (k : Kt) : nextK gS fi8 (.loop c8_23 k) .normal fr st = evK gS fi8 c8_22 fr st k := rfl
set_option maxHeartbeats 8000000 in
theorem L8 (l : List (List Pred)) (hl1 : ∀ f ∈ l, POk f) (hl2 : l.length < 1000000) (st : St) (e0 e1 e5 e6 : E) (h0 : e0.Tame) (h1 : e1.Tame) (h5 : e5.Tame) (h6 : e6.Firm) (X : List (Nat × List V)) :
    ∀ (n i : Nat) (T : List (Nat × E)), i ≤ l.length → l.length - i = n →
    evK gS fi8 c8_22 { ps := [(0, e0), (1, e1), (4, .val (.bool false)), (5, e5), (6, e6), (7, .val (.slice (encPredss l))), (8, .val (.slice (encPredss l))), (9, .val (.int .i64 i))], ts := T, lc := X } st (.blk 0 (.seq c8_39 .nil)) = some (.ret (.bool true) none, st) := by
  intro n
  have hm : fi8.marks = [] := rfl
  have hl : fi8.locals = [] := rfl
  have hr : fi8.results = [.tmp 4] := rfl
  induction n with
  | zero =>
    intro i T hi hn
    obtain rfl : i = l.length := by omega
    refine evK_loop c8_23 _ _ _ _ rfl ?_
    simp [h0, h1, h5, h6, -Int.not_le, -Int.not_lt, -Nat.not_le, -Nat.not_lt, ty3, ty4, ty28, ty29, ty31, ty49, ty51, hm, hl, hr, fi34_eq, x42, fi42_eq, p42, k46, x46, fi46_eq, p46, fi49_eq, fi50_eq, E8, q8_32, n8_22]
  | succ n ih =>
    intro i T hi hn
    obtain ⟨x, hx⟩ : ∃ x, l[i]? = some x := ⟨l[i]'(by omega), List.getElem?_eq_getElem (by omega)⟩
    have hlt : (i : Int) < (l.length : Int) := by omega
    obtain ⟨hlt2, hxe⟩ := List.getElem?_eq_some_iff.1 hx
    have hw : IntKind.wrap .i64 ((i : Int) + 1) = ((i + 1 : Nat) : Int) := by rw [wrap64 (by omega) (by omega)]; omega
    have hxo := hl1 x (List.mem_of_getElem? hx)
    have hsr := fsame_refl x
    have kk : ∀ (fr : Fr) (st : St), callStep gS (EvF gS) 42 [.slice (encPreds x), .slice (encPreds x)] fr st = some (.ok (.val (.bool true)) fr st) := fun fr st => by rw [k42 x x hxo hxo fr st, hsr]; rfl
    have IH := fun T => ih (i + 1) T (by omega) (by omega)
    refine evK_loop c8_23 _ _ _ _ rfl ?_
    simp [-Int.natCast_add, h0, h1, h5, h6, hx, hxe, hlt, hlt2, hw, kk, IH, -Int.not_le, -Int.not_lt, -Nat.not_le, -Nat.not_lt, ty3, ty4, ty28, ty29, ty31, ty49, ty51, hm, hl, hr, fi34_eq, x42, fi42_eq, p42, k46, x46, fi46_eq, p46, fi49_eq, fi50_eq, E8, q8_32, n8_22]
set_option maxHeartbeats 8000000 in
theorem c8 (raw : List Pred) (hraw : raw.length < 4611686018427387904) (hrq : ∀ p ∈ raw, QSm p) (l : List Int) (st : St) (hst : st.wp ≤ st.objs.length) : ∃ st', EvF gS 8 [.slice (encPreds raw), .slice (intVs l)] st = some (.ret (.bool true) none, st') := by
  have hm : fi8.marks = [] := rfl
  have hl : fi8.locals = [] := rfl
  have hr : fi8.results = [.tmp 4] := rfl
  have hf := feedOk_new hst
  have n1 := new_feed st l
  have k1 := fun fr => k34 raw hraw hrq l 0 0 st.objs.length 7 (by omega) (by omega) fr (nw st 0 []) hf (by omega) (by omega)
  have hall := filtersV_all (P := QSm) raw l 0 hrq (predV_qsm l 0) (filterV_qsm l 0) 0 7
  have hlen := filtersV_len raw l 0 0 (n := 7) (by omega)
  generalize filtersV raw l 0 0 7 = P1 at *
  obtain ⟨F, J, D⟩ := P1
  simp only at k1 hall hlen
  have hlen2 : F.length ≤ 7 := hlen
  have hps : ∀ f ∈ F, PSm f := fun f hf => psm_of (hall f hf)
  have k2 := fun fr st => k49 F hps (by omega) fr st
  have k3 := fun fr st => k50 F hps (by omega) fr st
  have hro : ∀ f ∈ freduce F, POk f := fun f hf => by
    rcases freduce_mem hf with h | h
    · simp at h
    · exact (hps f h).ok
  have hrl : (freduce F).length < 1000000 := by
    have := freduce_len (l := F) []
    show (F.foldl fredStep []).length < _
    simp at this; omega
  generalize freduce F = R at *
  have LL := fun T h6 => L8 R hro hrl (setF (dd (nw st 0 []) D) st.objs.length l (nA l 0 J)) (.val (.slice (encPreds raw))) (.val (.slice (intVs l))) (.val (.ptr st.objs.length 0)) (.own (kof 1 F) (encPredss F)) rfl rfl rfl h6 [] R.length 0 T (Nat.zero_le _) rfl
  refine ⟨setF (dd (nw st 0 []) D) st.objs.length l (nA l 0 J), ?_⟩
  refine EvF_start fi8_eq (fun x h => by cases h) m8 ?_
  rw [st8]
  rcases kof_or 1 F with ⟨hk, hF⟩ | hk
  · rw [hk] at k1 LL
    have en : encPredss F = [] := by rw [hF]; rfl
    rw [en] at k1 k2 k3 LL
    simp [n1, k1, k2, k3, -Int.not_le, -Int.not_lt, -Nat.not_le, -Nat.not_lt, ty3, ty4, ty28, ty29, ty31, ty49, ty51, hm, hl, hr, fi34_eq, k42, x42, fi42_eq, p42, k46, x46, fi46_eq, p46, fi49_eq, fi50_eq, E8, q8_32, n8_22]
    exact LL _ rfl
  · rw [hk] at k1 LL
    simp [n1, k1, k2, k3, -Int.not_le, -Int.not_lt, -Nat.not_le, -Nat.not_lt, ty3, ty4, ty28, ty29, ty31, ty49, ty51, hm, hl, hr, fi34_eq, k42, x42, fi42_eq, p42, k46, x46, fi46_eq, p46, fi49_eq, fi50_eq, E8, q8_32, n8_22]
    exact LL _ rfl
theorem run8 (raw : List Pred) (hraw : raw.length < 4611686018427387904) (hrq : ∀ p ∈ raw, QSm p) (l : List Int) : ∃ st', EvF gS 8 [.slice (encPreds raw), .slice (intVs l)] ⟨[], 0⟩ = some (.ret (.bool true) none, st') := c8 raw hraw hrq l ⟨[], 0⟩ (Nat.le_refl _)
end
end Go.Proofs.Ytclpbfkbpcjejaa
namespace Go.Ab
open Go Go.ChangeShapes Go.WideShapes
set_option linter.unusedVariables false
set_option linter.unusedSimpArgs false
set_option linter.unnecessarySimpa false
variable {H : Type} {enc : TypeId × Value → H} {P : Program} {w : World} {base b0 : Nat} {spare : Nat → Bool} {held : Bool} {r : Reach}
theorem arg_ints {t e : TypeId} {k : IntKind} {v : Value} {d : DataW H} {ps : List MemPlace} (ht : P.underlying t = some (.slice e)) (he : P.underlying e = some (.int k)) (hc : P.cellsOf e = 1)
    (hval : Value.okWide P w r b0 t v) (h : DataW.Trod enc P w base spare held t v d ps) : ∃ zs : List Int, Rep K0 w v (.slice (zs.map (V.int k))) ∧ ∀ n ∈ zs, (Lit.int k n).wf = true := by
  obtain ⟨a0, len, cap, rfl⟩ := okWide_slice ht hval
  obtain ⟨fuel, hf⟩ := h
  rcases open_ints ht he hc hf with ⟨hcs, _⟩ | ⟨a, len', cap', zs, hcs, _, hl, hm, hz, _, hcell, hwz⟩
  · simp [Value.cells] at hcs
    obtain ⟨rfl, rfl, rfl⟩ := hcs
    exact ⟨[], .slice0 _ _, by simp⟩
  · simp [Value.cells] at hcs
    obtain ⟨rfl, rfl, rfl⟩ := hcs
    have hzl : len ≤ zs.length := by rw [hz]; split <;> omega
    by_cases h0 : len = 0
    · subst h0; exact ⟨[], .slice0 _ _, by simp⟩
    · refine ⟨zs.take len, ?_, fun n hn => hwz n (List.mem_of_mem_take hn)⟩
      obtain ⟨b, off, spot⟩ := a
      have hspot : spot = none := by simpa [Addr.add] using World.cell?_spot (hcell 0 (by omega))
      subst hspot
      have hlen : ((zs.take len).map (V.int k)).length = len := by simp; omega
      have hfl : ((zs.take len).map (V.int k)).flatMap V.cells = (zs.take len).map (V.int k) := by
        generalize zs.take len = l
        induction l with
        | nil => rfl
        | cons x r ih => simp only [List.map_cons, List.flatMap_cons, ih]; rfl
      have key : Rep K0 w (.slice (some (at_ b off)) ((zs.take len).map (V.int k)).length cap) (.slice ((zs.take len).map (V.int k))) := by
        refine .slice (k := 1) (by rw [hlen]; exact hl) (fun x hx => ?_) ?_
        · obtain ⟨n, _, rfl⟩ := List.mem_map.1 hx; rfl
        · rw [hfl]
          refine RepAt.of_get fun j x hx => ?_
          rw [List.getElem?_map, List.getElem?_take] at hx
          split at hx
          · rename_i hj
            have hjz : j < zs.length := by omega
            rw [List.getElem?_eq_getElem hjz] at hx
            simp only [Option.map_some, Option.some.injEq] at hx
            subst hx
            refine ⟨.int k zs[j], ⟨?_, rfl⟩, .int _ _⟩
            have := hcell j hjz
            simp only [List.getD, List.getElem?_eq_getElem hjz, Option.getD_some] at this
            rwa [show ({ block := b, off := off } : Addr) = at_ b off from rfl, addr_add] at this
          · cases hx
      rw [hlen] at key
      exact key
end Go.Ab
namespace Go.Ab
open Go Go.ChangeShapes Go.WideShapes
set_option linter.unusedVariables false
set_option linter.unusedSimpArgs false
set_option linter.unnecessarySimpa false
variable {H : Type} {enc : TypeId × Value → H} {P : Program} {w : World} {base b0 : Nat} {spare : Nat → Bool} {held : Bool} {r : Reach}
/-- Plain types. -/
inductive Ty where
  | bool | int (k : IntKind) | float (k : FloatKind) | str
  | sl (e : Ty)
  | st (fs : List Ty)
mutual
def Ty.size : Ty → Nat
  | .st fs => Ty.sizes fs
  | _ => 1
def Ty.sizes : List Ty → Nat
  | [] => 0
  | f :: r => f.size + Ty.sizes r
end
mutual
/-- Is a type of the program that plain type? -/
def tyB (P : Program) : Ty → TypeId → Bool
  | .bool, t => match P.underlying t with | some .bool => true | _ => false
  | .int k, t => match P.underlying t with | some (.int k') => decide (k' = k) | _ => false
  | .float k, t => match P.underlying t with | some (.float k') => decide (k' = k) | _ => false
  | .str, t => match P.underlying t with | some .string => true | _ => false
  | .sl e, t => match P.underlying t with | some (.slice u) => tyB P e u && P.cellsOf u == e.size && Nat.blt 0 e.size | _ => false
  | .st fs, t => match P.underlying t with | some (.struct gs) => tyFs P fs gs.toList 0 && P.cellsOf t == Ty.sizes fs | _ => false
def tyFs (P : Program) : List Ty → List Field → Nat → Bool
  | [], [], _ => true
  | f :: fs, g :: gs, off => g.offset == off && tyB P f g.type && P.cellsOf g.type == f.size && tyFs P fs gs (off + f.size)
  | _, _, _ => false
end
/-- An element made of its cells. -/
def elt : Ty → List V → V
  | .st _, cs => .agg cs
  | _, cs => cs.headD .any
mutual
/-- What cells of a plain type look like. -/
def Fits : Ty → List V → Prop
  | .bool, cs => ∃ b, cs = [.bool b]
  | .int k, cs => ∃ n, cs = [.int k n]
  | .float k, cs => ∃ b, cs = [.float k b]
  | .str, cs => ∃ s, cs = [.str s]
  | .sl e, cs => ∃ xs : List (List V), cs = [.slice (xs.map (elt e))] ∧ ∀ x ∈ xs, Fits e x
  | .st fs, cs => FitsL fs cs
def FitsL : List Ty → List V → Prop
  | [], cs => cs = []
  | f :: fs, cs => ∃ a b, cs = a ++ b ∧ Fits f a ∧ FitsL fs b
end
mutual
theorem fits_len : ∀ (T : Ty) {cs : List V}, Fits T cs → cs.length = T.size
  | .bool, _, h => by obtain ⟨b, rfl⟩ := h; rfl
  | .int k, _, h => by obtain ⟨b, rfl⟩ := h; rfl
  | .float k, _, h => by obtain ⟨b, rfl⟩ := h; rfl
  | .str, _, h => by obtain ⟨b, rfl⟩ := h; rfl
  | .sl e, _, h => by obtain ⟨b, rfl, _⟩ := h; rfl
  | .st fs, _, h => fitsL_len fs h
theorem fitsL_len : ∀ (fs : List Ty) {cs : List V}, FitsL fs cs → cs.length = Ty.sizes fs
  | [], _, h => by have : _ = _ := h; subst this; rfl
  | f :: fs, _, h => by
    obtain ⟨a, b, rfl, h1, h2⟩ := h
    rw [List.length_append, fits_len f h1, fitsL_len fs h2]; rfl
end
theorem elt_cells {T : Ty} {cs : List V} (h : Fits T cs) : (elt T cs).cells = cs := by
  cases T with
  | st fs => rfl
  | bool => obtain ⟨b, rfl⟩ := h; rfl
  | int k => obtain ⟨b, rfl⟩ := h; rfl
  | float k => obtain ⟨b, rfl⟩ := h; rfl
  | str => obtain ⟨b, rfl⟩ := h; rfl
  | sl e => obtain ⟨b, rfl, _⟩ := h; rfl
theorem reps_append' {κ : K} {w : World} {vs us : List Value} {xs ys : List V} (h : Reps κ w vs xs) (k : Reps κ w us ys) : Reps κ w (vs ++ us) (xs ++ ys) := by
  induction xs generalizing vs with
  | nil => cases h; exact k
  | cons x r ih =>
    cases h with
    | cons h1 h2 => exact .cons h1 (ih h2)
theorem reps_get' {κ : K} {w : World} {vs : List Value} {xs : List V} (h : Reps κ w vs xs) : ∀ (j : Nat) x, xs[j]? = some x → ∃ v, vs[j]? = some v ∧ Rep κ w v x := by
  induction xs generalizing vs with
  | nil => intro j x hx; simp at hx
  | cons y r ih =>
    cases h with
    | cons h1 h2 =>
      intro j x hx
      cases j with
      | zero => simp at hx; subst hx; exact ⟨_, rfl, h1⟩
      | succ j => simpa using ih h2 j x (by simpa using hx)
/-- Cells of each of many elements, one behind the other. -/
theorem cells_at {k : Nat} (hk : 0 < k) {b off : Nat} : ∀ {n : Nat} (f : Nat → List Value) (g : Nat → List V), (∀ i, i < n → (f i).length = k ∧ Reps K0 w (f i) (g i) ∧ (g i).length = k ∧ ∀ j, j < k → w.cell? (at_ b (off + (i * k + j))) = (f i)[j]?) →
    RepAt K0 w b off (((List.range n).map g).flatMap id) := by
  intro n f g h
  refine RepAt.of_get fun j x hx => ?_
  have hc : ∀ (m : Nat), m ≤ n → ((((List.range m).map g).flatMap id).length = m * k) := by
    intro m
    induction m with
    | zero => intro _; simp
    | succ m ih =>
      intro hm
      rw [List.range_succ, List.map_append, List.flatMap_append, List.length_append, ih (by omega)]
      simp [(h m (by omega)).2.2.1, Nat.succ_mul]
  have key : ∀ (m : Nat), m ≤ n → ∀ j x, ((((List.range m).map g).flatMap id)[j]? = some x) → ∃ v, w.cell? (at_ b (off + j)) = some v ∧ Rep K0 w v x := by
    intro m
    induction m with
    | zero => intro _ j x hx; simp at hx
    | succ m ih =>
      intro hm j x hx
      rw [List.range_succ, List.map_append, List.flatMap_append] at hx
      by_cases hj : j < m * k
      · rw [List.getElem?_append_left (by rw [hc m (by omega)]; exact hj)] at hx
        exact ih (by omega) j x hx
      · rw [List.getElem?_append_right (by rw [hc m (by omega)]; omega), hc m (by omega)] at hx
        simp only [List.map_cons, List.map_nil, List.flatMap_cons, List.flatMap_nil, id, List.append_nil] at hx
        obtain ⟨h1, h2, h3, h4⟩ := h m (by omega)
        obtain ⟨v, hv, hr⟩ := reps_get' h2 _ _ hx
        have hjl := (List.getElem?_eq_some_iff.1 hx).1
        rw [h3] at hjl
        refine ⟨v, ?_, hr⟩
        have := h4 (j - m * k) hjl
        rw [hv] at this
        rw [← this]; congr 2; omega
  obtain ⟨v, hv, hr⟩ := key n (Nat.le_refl _) j x hx
  exact ⟨v, ⟨hv, rfl⟩, hr⟩
theorem choose_range {α : Type} [Inhabited α] {n : Nat} {p : Nat → α → Prop} (h : ∀ i, i < n → ∃ x, p i x) : ∃ f : Nat → α, ∀ i, i < n → p i (f i) := by
  refine ⟨fun i => if hi : i < n then Classical.choose (h i hi) else default, fun i hi => ?_⟩
  simp only [hi, dif_pos]
  exact Classical.choose_spec (h i hi)
mutual
theorem any_ok : ∀ (T : Ty) {fuel : Nat} {t : TypeId} {cs : List Value} {x : DataW H × List MemPlace}, tyB P T t = true → DataW.trod enc P w base spare held fuel t cs = some x → ∃ xs, Reps K0 w cs xs ∧ Fits T xs
  | .bool, fuel, t, cs, x, ht, h => by
    unfold tyB at ht
    split at ht
    · rename_i hu
      obtain ⟨b, rfl, _⟩ := DataW.trod_bool hu h
      exact ⟨[.bool b], .cons (.bool b) .nil, b, rfl⟩
    · cases ht
  | .int k, fuel, t, cs, x, ht, h => by
    unfold tyB at ht
    split at ht
    · rename_i k' hu
      obtain ⟨n, rfl, _⟩ := DataW.trod_int hu h
      have := of_decide_eq_true ht
      subst this
      exact ⟨[.int k' n], .cons (.int k' n) .nil, n, rfl⟩
    · cases ht
  | .float k, fuel, t, cs, x, ht, h => by
    unfold tyB at ht
    split at ht
    · rename_i k' hu
      have hk := of_decide_eq_true ht
      subst hk
      cases fuel with
      | zero => simp [DataW.trod] at h
      | succ n =>
        unfold DataW.trod at h
        rw [hu] at h
        split at h <;> simp_all
        obtain ⟨⟨rfl, _⟩, _⟩ := h
        exact ⟨_, .cons (.float _ _) .nil, _, rfl⟩
    · cases ht
  | .str, fuel, t, cs, x, ht, h => by
    unfold tyB at ht
    split at ht
    · rename_i hu
      obtain ⟨s, rfl, _⟩ := DataW.trod_string hu h
      exact ⟨[.str s.data.toList], .cons (.str s) .nil, _, rfl⟩
    · cases ht
  | .sl e, fuel, t, cs, x, ht, h => by
    unfold tyB at ht
    split at ht
    · rename_i u hu
      simp only [Bool.and_eq_true, beq_iff_eq, Nat.blt_eq] at ht
      obtain ⟨⟨h1, h2⟩, h3⟩ := ht
      rcases DataW.trod_slice hu h with ⟨rfl, _⟩ | ⟨a, len, cap, elems, rest, n, rfl, rfl, _, hb, hl, hm, hlen, hel, _, _⟩
      · exact ⟨[.slice []], .cons (.slice0 _ _) .nil, [], rfl, by simp⟩
      · by_cases h0 : len = 0
        · subst h0; exact ⟨[.slice []], .cons (.slice0 _ _) .nil, [], rfl, by simp⟩
        · rw [h2] at hel
          have each : ∀ i, i < len → ∃ c : List Value × List V, c.1.length = e.size ∧ Reps K0 w c.1 c.2 ∧ Fits e c.2 ∧ ∀ j, j < e.size → w.cell? ((a.add (i * e.size)).add j) = c.1[j]? := by
            intro i hi
            have hi' := hel i hi
            rw [List.getElem?_eq_getElem (by omega)] at hi'
            obtain ⟨c, hc1, hc2⟩ := Option.bind_eq_some_iff.1 hi'
            obtain ⟨_, c1, c2⟩ := World.cells?_some hc1
            obtain ⟨xs, x1, x2⟩ := any_ok e h1 hc2
            exact ⟨(c, xs), c1, x1, x2, c2⟩
          obtain ⟨f, hf⟩ := choose_range each
          obtain ⟨b, off, spot⟩ := a
          have hspot : spot = none := by
            obtain ⟨q1, q2, q3, q4⟩ := hf 0 (by omega)
            have := q4 0 h3
            rw [List.getElem?_eq_getElem (by omega)] at this
            have := World.cell?_spot this
            simpa [Addr.add] using this
          subst hspot
          have hat : RepAt K0 w b off (((List.range len).map fun i => (f i).2).flatMap id) := cells_at h3 (fun i => (f i).1) (fun i => (f i).2) fun i hi => by
            obtain ⟨q1, q2, q3, q4⟩ := hf i hi
            refine ⟨q1, q2, fits_len e q3, fun j hj => ?_⟩
            have := q4 j hj
            rw [show ({ block := b, off := off } : Addr) = at_ b off from rfl, addr_add, addr_add] at this
            rw [← this]; congr 2; omega
          let xs := (List.range len).map fun i => (f i).2
          have hxl : (xs.map (elt e)).length = len := by simp [xs]
          have hfit : ∀ x ∈ xs, Fits e x := by
            intro x hx
            obtain ⟨i, hi, rfl⟩ := List.mem_map.1 hx
            exact (hf i (List.mem_range.1 hi)).2.2.1
          have hfl : (xs.map (elt e)).flatMap V.cells = xs.flatMap id := by
            have : ∀ l : List (List V), (∀ x ∈ l, Fits e x) → (l.map (elt e)).flatMap V.cells = l.flatMap id := by
              intro l
              induction l with
              | nil => intro _; rfl
              | cons y r ih =>
                intro hl
                simp only [List.map_cons, List.flatMap_cons]
                rw [elt_cells (hl y (by simp)), ih (fun z hz => hl z (by simp [hz]))]; rfl
            exact this xs hfit
          have key := Rep.slice (κ := K0) (w := w) (b := b) (o := off) (cap := cap) (k := e.size) (xs := xs.map (elt e)) (by rw [hxl]; exact hl) (fun y hy => by
            obtain ⟨z, hz, rfl⟩ := List.mem_map.1 hy
            rw [elt_cells (hfit z hz)]; exact fits_len e (hfit z hz)) (by rw [hfl]; exact hat)
          rw [hxl] at key
          exact ⟨[.slice (xs.map (elt e))], .cons key .nil, xs, rfl, hfit⟩
    · cases ht
  | .st fs, fuel, t, cs, x, ht, h => by
    unfold tyB at ht
    split at ht
    · rename_i gs hu
      simp only [Bool.and_eq_true, beq_iff_eq] at ht
      obtain ⟨ys, n, rfl, _, hcl, hyl, hf⟩ := DataW.trod_struct hu h
      have := anyL_ok fs gs.toList 0 cs (n := n) ht.1 (fun i f hi => by
        have hi' : gs[i]? = some f := by rw [← Array.getElem?_toList]; exact hi
        have h1 := hf i f hi'
        have h2 : i < ys.length := by rw [hyl]; exact (Array.getElem?_eq_some_iff.1 hi').1
        rw [List.getElem?_eq_getElem h2] at h1
        exact ⟨_, h1⟩) (by rw [hcl, ht.2]; simp)
      obtain ⟨xs, h1, h2⟩ := this
      rw [List.drop_zero] at h1
      exact ⟨xs, h1, h2⟩
    · cases ht
theorem anyL_ok : ∀ (fs : List Ty) (gs : List Field) (off : Nat) (cs : List Value) {n : Nat}, tyFs P fs gs off = true → (∀ (i : Nat) (f : Field), gs[i]? = some f → ∃ x, DataW.trod enc P w base spare held n f.type ((cs.drop f.offset).take (P.cellsOf f.type)) = some x) → cs.length = off + Ty.sizes fs →
    ∃ xs, Reps K0 w (cs.drop off) xs ∧ FitsL fs xs
  | [], gs, off, cs, n, ht, h, hl => by
    have : cs.drop off = [] := List.drop_of_length_le (by rw [hl]; exact Nat.le_refl _)
    rw [this]
    exact ⟨[], .nil, rfl⟩
  | f :: fs, [], off, cs, n, ht, h, hl => by simp [tyFs] at ht
  | f :: fs, g :: gs, off, cs, n, ht, h, hl => by
    simp only [tyFs, Bool.and_eq_true, beq_iff_eq] at ht
    obtain ⟨⟨⟨h1, h2⟩, h3⟩, h4⟩ := ht
    obtain ⟨x, hx⟩ := h 0 g rfl
    rw [h1, h3] at hx
    obtain ⟨xs, x1, x2⟩ := any_ok f h2 hx
    have hs : Ty.sizes (f :: fs) = f.size + Ty.sizes fs := rfl
    obtain ⟨ys, y1, y2⟩ := anyL_ok fs gs (off + f.size) cs h4 (fun i q hi => h (i + 1) q hi) (by rw [hl, hs]; omega)
    refine ⟨xs ++ ys, ?_, xs, ys, rfl, x2, y2⟩
    have hsp : cs.drop off = (cs.drop off).take f.size ++ cs.drop (off + f.size) := by
      rw [← List.drop_drop, List.take_append_drop]
    rw [hsp]
    exact reps_append' x1 y1
end
/-- An argument of a plain type. -/
theorem arg_any (T : Ty) {t : TypeId} {v : Value} {d : DataW H} {ps : List MemPlace} (ht : tyB P T t = true) (h : DataW.Trod enc P w base spare held t v d ps) : ∃ xs, Reps K0 w v.cells.toList xs ∧ Fits T xs := by
  obtain ⟨fuel, hf⟩ := h
  exact any_ok T ht hf
end Go.Ab
namespace Go.Ab
open Go Go.ChangeShapes Go.WideShapes
set_option linter.unusedVariables false
set_option linter.unusedSimpArgs false
set_option linter.unnecessarySimpa false
variable {H : Type} {enc : TypeId × Value → H} {P : Program} {w : World} {base b0 : Nat} {spare : Nat → Bool} {held : Bool} {r : Reach}
def TVal : List Ty := [.int .i64, .int .i64, .float .f64, .str, .bool]
def TPred : List Ty := [.str, .int .i64, .st TVal, .st TVal, .sl (.st TVal)]
theorem fits_val {cs : List V} (h : Fits (.st TVal) cs) : ∃ v : Val, cs = v.cells := by
  obtain ⟨_, _, rfl, ⟨k, rfl⟩, _, _, rfl, ⟨n, rfl⟩, _, _, rfl, ⟨x, rfl⟩, _, _, rfl, ⟨s, rfl⟩, _, _, rfl, ⟨b, rfl⟩, h⟩ := h
  cases h
  exact ⟨⟨k, n, x, s, b⟩, rfl⟩
theorem fits_vals : ∀ {xs : List (List V)}, (∀ x ∈ xs, Fits (.st TVal) x) → ∃ vs : List Val, xs.map (elt (.st TVal)) = encVals vs
  | [], _ => ⟨[], rfl⟩
  | x :: r, h => by
    obtain ⟨v, hv⟩ := fits_val (h x (by simp))
    obtain ⟨vs, hs⟩ := fits_vals (xs := r) (fun y hy => h y (by simp [hy]))
    refine ⟨v :: vs, ?_⟩
    rw [List.map_cons, hs, hv]; rfl
theorem fits_pred {cs : List V} (h : Fits (.st TPred) cs) : ∃ p : Pred, cs = p.cells := by
  obtain ⟨_, _, rfl, ⟨nm, rfl⟩, _, _, rfl, ⟨t, rfl⟩, _, _, rfl, hv, _, _, rfl, hw, _, _, rfl, ⟨xs, rfl, hx⟩, h⟩ := h
  cases h
  obtain ⟨v, rfl⟩ := fits_val hv
  obtain ⟨u, rfl⟩ := fits_val hw
  obtain ⟨vs, hs⟩ := fits_vals hx
  refine ⟨⟨nm, t, v, u, vs⟩, ?_⟩
  rw [hs]; rfl
end Go.Ab
namespace Go.Ab
open Go Go.ChangeShapes Go.WideShapes
set_option linter.unusedVariables false
set_option linter.unusedSimpArgs false
set_option linter.unnecessarySimpa false
variable {H : Type} {enc : TypeId × Value → H} {P : Program} {w : World} {base b0 : Nat} {spare : Nat → Bool} {held : Bool} {r : Reach}
mutual
def Ty.bytes : Ty → Nat
  | .bool => 1
  | .int .i64 => 8
  | .int _ => 1
  | .float _ => 8
  | .str => 16
  | .sl _ => 24
  | .st fs => (Ty.bytess fs + 7) / 8 * 8
def Ty.bytess : List Ty → Nat
  | [] => 0
  | f :: r => f.bytes + Ty.bytess r
end
mutual
/-- Are the bytes of a type's parts at least so many? -/
def byB (P : Program) : Ty → TypeId → Bool
  | .sl e, t => match P.underlying t with | some (.slice u) => Nat.ble e.bytes (P.bytesOf u) && byB P e u | _ => false
  | .st fs, t => match P.underlying t with | some (.struct gs) => byFs P fs (gs.toList.map (·.type)) | _ => false
  | _, _ => true
def byFs (P : Program) : List Ty → List TypeId → Bool
  | [], [] => true
  | f :: fs, g :: gs => byB P f g && byFs P fs gs
  | _, _ => false
end
mutual
/-- How long the parts may be. -/
def Bnd : Ty → List V → Prop
  | .str, cs => ∃ s, cs = [.str s] ∧ s.length ≤ reachBytes
  | .sl e, cs => ∃ xs : List (List V), cs = [.slice (xs.map (elt e))] ∧ (∀ x ∈ xs, Fits e x) ∧ xs.length * e.bytes ≤ reachBytes ∧ ∀ x ∈ xs, Bnd e x
  | .st fs, cs => BndL fs cs
  | _, _ => True
def BndL : List Ty → List V → Prop
  | [], _ => True
  | f :: fs, cs => Bnd f (cs.take f.size) ∧ BndL fs (cs.drop f.size)
end
theorem weights_all {H : Type} {P : Program} {e : TypeId} : ∀ {l : List (DataW H)} {d : DataW H} {n : Nat}, d ∈ l → n ∈ d.weights P e → n ∈ DataW.weightsAll P e l
  | d0 :: r, d, n, hd, hn => by
    simp only [DataW.weightsAll, List.mem_append]
    rcases List.mem_cons.1 hd with rfl | hd
    · exact .inl hn
    · exact .inr (weights_all hd hn)
theorem rep_slice_len {κ : K} {w : World} {v : Value} {q : List V} (h : Rep κ w v (.slice q)) : ∃ a cap, v = .slice a q.length cap := by
  cases h with
  | slice0 a cap => exact ⟨a, cap, rfl⟩
  | slice _ _ _ => exact ⟨_, _, rfl⟩
theorem reps_of {κ : K} {w : World} : ∀ {cs : List Value} {xs : List V}, cs.length = xs.length → (∀ (j : Nat) x, xs[j]? = some x → ∃ v, cs[j]? = some v ∧ Rep κ w v x) → Reps κ w cs xs
  | [], [], _, _ => .nil
  | [], _ :: _, h, _ => by simp at h
  | _ :: _, [], h, _ => by simp at h
  | c :: cs, x :: xs, h, k => by
    obtain ⟨v, hv, hr⟩ := k 0 x rfl
    simp at hv; subst hv
    exact .cons hr (reps_of (by simpa using h) fun j y hy => by simpa using k (j + 1) y (by simpa using hy))
theorem reps_split {κ : K} {w : World} : ∀ {a : List Value} {x : List V} {b : List Value} {y : List V}, a.length = x.length → Reps κ w (a ++ b) (x ++ y) → Reps κ w a x ∧ Reps κ w b y
  | [], [], _, _, _, h => ⟨.nil, h⟩
  | [], _ :: _, _, _, h, _ => by simp at h
  | _ :: _, [], _, _, h, _ => by simp at h
  | v :: a, z :: x, b, y, h, k => by
    cases k with
    | cons h1 h2 =>
      obtain ⟨p, q⟩ := reps_split (by simpa using h) h2
      exact ⟨.cons h1 p, q⟩
theorem RepAt.get {κ : K} {w : World} {b : Nat} : ∀ {xs : List V} {o : Nat}, RepAt κ w b o xs → ∀ (j : Nat) x, xs[j]? = some x → ∃ v, Imm κ w b (o + j) v ∧ Rep κ w v x
  | [], _, _, _, _, h => by simp at h
  | y :: r, o, h, j, x, hx => by
    cases h with
    | cons hi h1 h2 =>
      cases j with
      | zero => simp at hx; subst hx; exact ⟨_, hi, h1⟩
      | succ j =>
        obtain ⟨v, hv, hr⟩ := RepAt.get h2 j x (by simpa using hx)
        exact ⟨v, by rw [show o + (j + 1) = o + 1 + j by omega]; exact hv, hr⟩
mutual
/-- Cells that lie there as they were read are no longer than their weights. -/
theorem bnd_ok : ∀ (T : Ty) {fuel : Nat} {t : TypeId} {cs : List Value} {x : DataW H × List MemPlace} {xs : List V}, tyB P T t = true → byB P T t = true → DataW.trod enc P w base spare held fuel t cs = some x → Reps K0 w cs xs → Fits T xs → (∀ n ∈ x.1.weights P t, n ≤ reachBytes) → Bnd T xs
  | .bool, _, _, _, _, _, _, _, _, _, _, _ => trivial
  | .int _, _, _, _, _, _, _, _, _, _, _, _ => trivial
  | .float _, _, _, _, _, _, _, _, _, _, _, _ => trivial
  | .str, fuel, t, cs, x, xs, ht, hb, h, hr, hf, hw => by
    unfold tyB at ht
    split at ht
    · rename_i hu
      obtain ⟨s, rfl, rfl, _⟩ := DataW.trod_string hu h
      obtain ⟨s', rfl⟩ := hf
      cases hr with
      | cons h1 h2 =>
        cases h1 with
        | str => exact ⟨_, rfl, hw _ (by simp [DataW.weights])⟩
    · cases ht
  | .sl e, fuel, t, cs, x, ys, ht, hb, h, hr, hf, hw => by
    unfold tyB at ht
    unfold byB at hb
    split at ht
    · rename_i u hu
      rw [hu] at hb
      simp only [Bool.and_eq_true, beq_iff_eq, Nat.blt_eq, Nat.ble_eq] at ht hb
      obtain ⟨⟨h1, h2⟩, h3⟩ := ht
      obtain ⟨xs, rfl, hfe⟩ := hf
      refine ⟨xs, rfl, hfe, ?_⟩
      rcases DataW.trod_slice hu h with ⟨rfl, _⟩ | ⟨a, len, cap, elems, rest, n, rfl, rfl, rfl, hbs, hl, hm, hlen, hel, _, _⟩
      · cases hr with
        | cons h4 h5 =>
          have : xs = [] := by
            obtain ⟨a, cap, he⟩ := rep_slice_len h4
            simp at he
            exact List.length_eq_zero_iff.1 he.2.1.symm
          subst this
          exact ⟨by simp, by simp⟩
      · have hxl : xs.length = len := by
          cases hr with
          | cons h4 h5 =>
            generalize hq : xs.map (elt e) = q at h4
            have hql : q.length = xs.length := by rw [← hq]; simp
            cases h4 with
            | slice0 _ _ => simp at hql; omega
            | slice _ _ _ => omega
        simp only [DataW.weights, hu, List.mem_cons, List.mem_append] at hw
        have hw0 := hw _ (.inl rfl)
        refine ⟨?_, ?_⟩
        · rw [hxl, ← hlen]
          refine Nat.le_trans ?_ hw0
          simp only [List.length_map]
          exact Nat.mul_le_mul (by omega) hb.1
        · intro z hz
          obtain ⟨i, hi, hzi⟩ := List.getElem_of_mem hz
          have hil : i < len := by omega
          have hi' := hel i hil
          rw [List.getElem?_eq_getElem (by omega)] at hi'
          obtain ⟨c, hc1, hc2⟩ := Option.bind_eq_some_iff.1 hi'
          obtain ⟨_, c1, c2⟩ := World.cells?_some hc1
          rw [h2] at c1 c2
          -- the cells that stand for the element
          have hrz : Reps K0 w c z := by
            cases hr with
            | cons h4 h5 =>
              generalize hq : xs.map (elt e) = q at h4
              have hql : q.length = xs.length := by rw [← hq]; simp
              cases h4 with
              | slice0 _ _ => simp at hql; omega
              | @slice b off cap' k ys' hcap hk hat =>
                have hzs : Fits e z := hfe z hz
                have hfl : (xs.map (elt e)).flatMap V.cells = xs.flatMap id := by
                  have : ∀ l : List (List V), (∀ x ∈ l, Fits e x) → (l.map (elt e)).flatMap V.cells = l.flatMap id := by
                    intro l
                    induction l with
                    | nil => intro _; rfl
                    | cons y r ih =>
                      intro hl
                      simp only [List.map_cons, List.flatMap_cons]
                      rw [elt_cells (hl y (by simp)), ih (fun z hz => hl z (by simp [hz]))]; rfl
                  exact this xs hfe
                rw [← hq, hfl] at hat
                have hgl : ∀ l : List (List V), (∀ x ∈ l, Fits e x) → ∀ (i : Nat) (z : List V), l[i]? = some z → ∀ j, j < e.size → (l.flatMap id)[i * e.size + j]? = z[j]? := by
                  intro l
                  induction l with
                  | nil => intro _ i z hz; simp at hz
                  | cons y r ih =>
                    intro hl i z hz j hj
                    have hyl := fits_len e (hl y (by simp))
                    cases i with
                    | zero =>
                      simp at hz; subst hz
                      rw [List.flatMap_cons, Nat.zero_mul, Nat.zero_add, List.getElem?_append_left (by rw [id, hyl]; exact hj)]; rfl
                    | succ i =>
                      rw [List.flatMap_cons, List.getElem?_append_right (by rw [id, hyl, Nat.succ_mul]; omega), show (i + 1) * e.size + j - (id y).length = i * e.size + j by rw [id, hyl, Nat.succ_mul]; omega]
                      exact ih (fun z hz => hl z (by simp [hz])) i z (by simpa using hz) j hj
                have hzg : xs[i]? = some z := by rw [List.getElem?_eq_getElem hi, hzi]
                have hzl := fits_len e hzs
                refine reps_of (by rw [c1, hzl]) fun j x hx => ?_
                have hjl := (List.getElem?_eq_some_iff.1 hx).1
                have h6 := hgl xs hfe i z hzg j (by omega)
                rw [hx] at h6
                obtain ⟨v, hv, hrv⟩ := RepAt.get hat _ _ h6
                refine ⟨v, ?_, hrv⟩
                have h7 := c2 j (by omega)
                rw [addr_add, addr_add] at h7
                rw [← h7, ← hv.1]
                congr 2
                omega
          exact bnd_ok e h1 hb.2 hc2 hrz (hfe z hz) fun n hn => hw n (.inr (.inl (weights_all (List.mem_map.2 ⟨_, List.getElem_mem (by omega), rfl⟩) hn)))
    · cases ht
  | .st fs, fuel, t, cs, x, xs, ht, hb, h, hr, hf, hw => by
    unfold tyB at ht
    unfold byB at hb
    split at ht
    · rename_i gs hu
      rw [hu] at hb
      simp only [Bool.and_eq_true, beq_iff_eq] at ht
      obtain ⟨ys, n, rfl, rfl, hcl, hyl, hf2⟩ := DataW.trod_struct hu h
      have := bndL_ok fs gs.toList 0 cs xs (n := n) ht.1 hb (fun i f hi => by
        have hi' : gs[i]? = some f := by rw [← Array.getElem?_toList]; exact hi
        have h1 := hf2 i f hi'
        have h2 : i < ys.length := by rw [hyl]; exact (Array.getElem?_eq_some_iff.1 hi').1
        rw [List.getElem?_eq_getElem h2] at h1
        refine ⟨_, h1, fun n hn => hw n ?_⟩
        rw [DataW.weights, hu]
        exact DataW.weights_mem_each (j := i) (t := f.type) (d := (ys[i]).1) (by rw [List.getElem?_map, hi]; rfl) (by rw [List.getElem?_map, List.getElem?_eq_getElem h2]; rfl) n hn) (by rw [hcl, ht.2]; simp) (by rw [List.drop_zero]; exact hr) hf
      exact this
    · cases ht
theorem bndL_ok : ∀ (fs : List Ty) (gs : List Field) (off : Nat) (cs : List Value) (xs : List V) {n : Nat}, tyFs P fs gs off = true → byFs P fs (gs.map (·.type)) = true → (∀ (i : Nat) (f : Field), gs[i]? = some f → ∃ x, DataW.trod enc P w base spare held n f.type ((cs.drop f.offset).take (P.cellsOf f.type)) = some x ∧ ∀ n ∈ x.1.weights P f.type, n ≤ reachBytes) → cs.length = off + Ty.sizes fs →
    Reps K0 w (cs.drop off) xs → FitsL fs xs → BndL fs xs
  | [], gs, off, cs, xs, n, ht, hb, h, hl, hr, hf => trivial
  | f :: fs, [], off, cs, xs, n, ht, hb, h, hl, hr, hf => by simp [tyFs] at ht
  | f :: fs, g :: gs, off, cs, xs, n, ht, hb, h, hl, hr, hf => by
    simp only [tyFs, Bool.and_eq_true, beq_iff_eq] at ht
    simp only [List.map_cons, byFs, Bool.and_eq_true] at hb
    obtain ⟨⟨⟨h1, h2⟩, h3⟩, h4⟩ := ht
    obtain ⟨x, hx, hxw⟩ := h 0 g rfl
    rw [h1, h3] at hx
    obtain ⟨a, b, rfl, ha, hb2⟩ := hf
    have hal := fits_len f ha
    have hs : Ty.sizes (f :: fs) = f.size + Ty.sizes fs := rfl
    have hsp : cs.drop off = (cs.drop off).take f.size ++ cs.drop (off + f.size) := by
      rw [← List.drop_drop, List.take_append_drop]
    have hlt : ((cs.drop off).take f.size).length = a.length := by
      rw [hal, List.length_take, List.length_drop, hl, hs]; omega
    rw [hsp] at hr
    obtain ⟨hr1, hr2⟩ := reps_split hlt hr
    refine ⟨?_, ?_⟩
    · rw [List.take_left' hal]
      exact bnd_ok f h2 hb.1 hx hr1 ha hxw
    · rw [List.drop_left' hal]
      exact bndL_ok fs gs (off + f.size) cs b h4 hb.2 (fun i q hi => h (i + 1) q hi) (by rw [hl, hs]; omega) hr2 hb2
end
end Go.Ab
namespace Go.Ab
open Go Go.ChangeShapes Go.WideShapes
set_option linter.unusedVariables false
set_option linter.unusedSimpArgs false
set_option linter.unnecessarySimpa false
variable {H : Type} {enc : TypeId × Value → H} {P : Program} {w : World} {base b0 : Nat} {spare : Nat → Bool} {held : Bool} {r : Reach}
theorem elt_len {e : Ty} {xs : List (List V)} {ys : List V} (h : xs.map (elt e) = ys) : xs.length = ys.length := by rw [← h]; simp
theorem slice_inj {a b : List V} (h : [V.slice a] = [V.slice b]) : a = b := by simpa using h
theorem bnd_pred {cs : List V} (h : Fits (.st TPred) cs) (hb : Bnd (.st TPred) cs) : ∃ p : Pred, cs = p.cells ∧ p.name.length ≤ reachBytes ∧ p.set.length * 48 ≤ reachBytes := by
  obtain ⟨p, rfl⟩ := fits_pred h
  refine ⟨p, rfl, ?_⟩
  simp only [Bnd, TPred, BndL] at hb
  obtain ⟨⟨s, hs, hsl⟩, _, _, _, ⟨xs, hx, _, hxl, _⟩, _⟩ := hb
  have h1 : s = p.name := by
    have : [V.str p.name] = [V.str s] := hs
    simpa using this.symm
  subst h1
  refine ⟨hsl, ?_⟩
  have h2 : xs.map (elt (.st TVal)) = encVals p.set := by
    have : [V.slice (encVals p.set)] = [V.slice (xs.map (elt (.st TVal)))] := hx
    exact (slice_inj this).symm
  have h3 := elt_len h2
  rw [encVals, List.length_map] at h3
  rw [← h3]
  exact hxl
theorem bnd_preds : ∀ {xs : List (List V)}, (∀ x ∈ xs, Fits (.st TPred) x) → (∀ x ∈ xs, Bnd (.st TPred) x) → ∃ ps : List Pred, xs.map (elt (.st TPred)) = encPreds ps ∧ ∀ p ∈ ps, p.name.length ≤ reachBytes ∧ p.set.length * 48 ≤ reachBytes
  | [], _, _ => ⟨[], rfl, by simp⟩
  | x :: r, h, k => by
    obtain ⟨v, hv, h1, h2⟩ := bnd_pred (h x (by simp)) (k x (by simp))
    obtain ⟨vs, hs, h3⟩ := bnd_preds (xs := r) (fun y hy => h y (by simp [hy])) (fun y hy => k y (by simp [hy]))
    refine ⟨v :: vs, ?_, fun p hp => ?_⟩
    · rw [List.map_cons, hs, hv]; rfl
    · rcases List.mem_cons.1 hp with rfl | hp
      · exact ⟨h1, h2⟩
      · exact h3 p hp
theorem arg_bnd {e : Ty} {t u : TypeId} {v : Value} {d : DataW H} {ps : List MemPlace} (hu : P.underlying t = some (.slice u)) (ht : tyB P (.sl e) t = true) (hbt : byB P (.sl e) t = true) (hval : Value.okWide P w r b0 t v) (h : DataW.Trod enc P w base spare held t v d ps) (hw : ∀ n ∈ d.weights P t, n ≤ reachBytes) :
    ∃ xs : List (List V), Rep K0 w v (.slice (xs.map (elt e))) ∧ (∀ x ∈ xs, Fits e x) ∧ xs.length * e.bytes ≤ reachBytes ∧ ∀ x ∈ xs, Bnd e x := by
  obtain ⟨ys, h1, h2⟩ := arg_any (.sl e) ht h
  obtain ⟨fuel, hf⟩ := h
  have hb := bnd_ok (.sl e) ht hbt hf h1 h2 hw
  obtain ⟨a0, len, cap, rfl⟩ := okWide_slice hu hval
  obtain ⟨xs, rfl, h3, h4, h5⟩ := hb
  refine ⟨xs, ?_, h3, h4, h5⟩
  simp only [Value.cells] at h1
  cases h1 with
  | cons h3 h4 => exact h3
theorem arg_preds {t u : TypeId} {v : Value} {d : DataW H} {ps : List MemPlace} (hu : P.underlying t = some (.slice u)) (ht : tyB P (.sl (.st TPred)) t = true) (hbt : byB P (.sl (.st TPred)) t = true) (hval : Value.okWide P w r b0 t v) (h : DataW.Trod enc P w base spare held t v d ps) (hw : ∀ n ∈ d.weights P t, n ≤ reachBytes) :
    ∃ l : List Pred, Rep K0 w v (.slice (encPreds l)) ∧ l.length < 4611686018427387904 ∧ ∀ p ∈ l, p.name.length < 4611686018427387904 ∧ p.set.length * 48 ≤ 140737488355328 := by
  obtain ⟨xs, h1, h2, h3, h4⟩ := arg_bnd hu ht hbt hval h hw
  obtain ⟨l, hl, h5⟩ := bnd_preds h2 h4
  have h6 := elt_len hl
  rw [encPreds, List.length_map] at h6
  have h7 : (Ty.st TPred).bytes = 144 := rfl
  rw [h7] at h3
  refine ⟨l, hl ▸ h1, ?_, fun p hp => ?_⟩
  · unfold reachBytes at h3; omega
  · have := h5 p hp
    unfold reachBytes at this; omega
end Go.Ab
namespace Go.Proofs.Ytclpbfkbpcjejaa
open Go Go.Ab Go.ChangeShapes Go.WideShapes Go.ChangeAt Go.RowKit
set_option linter.unusedVariables false
set_option linter.unusedSimpArgs false
set_option linter.unnecessarySimpa false
set_option maxRecDepth 100000 in
theorem filterReduces_lifted (os : Os) (started : os.Started) (H : Type) (enc : TypeId × Value → H) :
    ReturnsInHanded {} Try.checked os 8 .any (Rows.filterReducesSpec.pre6 enc Try.prog Try.f8 Rows.filterReducesRow.domain false) (Rows.filterReducesSpec.post enc Try.prog Try.f8 false true false false) := by
  refine returnsInHanded_of_change_sized (C := Try.checked) Try.own started (by kernel_rfl) Try.func8
    (ChangeSpec.witness6 (enc := enc) (C := Try.checked) false ⟨#[], #[.slice none 0 0, .slice none 0 0], []⟩ 8 (by kernel_rfl) (by kernel_rfl) (by kernel_rfl) (by kernel_rfl)) ?_
  intro W base args ds gs before hval0 hW _ hsz0 _
  have hW' := hW
  obtain ⟨p, q, hA0, hV, rfl, _, _⟩ := hW
  have hA : DataW.TrodAll enc Try.prog W 0 (fun _ => true) true Try.f8.params.toList args.toList ds p := hA0
  have hpar : Try.f8.params = #[49, 28] := by kernel_rfl
  have hval : ∀ (j : Nat) t v, Try.f8.params[j]? = some t → args[j]? = some v → Value.okWide Try.prog W .any base t v := hval0
  rw [hpar] at hA hval
  obtain ⟨l⟩ := args
  obtain ⟨v0, l, d0, ds, p0, r0, rfl, rfl, rfl, h0, hA⟩ := trodAll_cons hA
  obtain ⟨v1, l, d1, ds, p1, r1, rfl, rfl, rfl, h1, hA⟩ := trodAll_cons hA
  obtain ⟨rfl, rfl, rfl⟩ := trodAll_nil hA
  obtain ⟨rfl, rfl⟩ := trodVars_none hV
  obtain ⟨x0, a0, b0, c0⟩ := arg_preds Try.underlying49 (by kernel_rfl) (by kernel_rfl) (hval 0 49 v0 rfl rfl) h0 (fun n hn => of_decide_eq_true (List.all_eq_true.1 hsz0 n (DataW.weights_mem_each (j := 0) (by rw [hpar]; rfl) rfl n hn)))
  obtain ⟨x1, a1, _⟩ := arg_ints Try.underlying28 Try.underlying3 (by kernel_rfl) (hval 1 28 v1 rfl rfl) h1
  have hlt : ∀ y ∈ p0 ++ (p1 ++ []) ++ [], y.block < W.heap.size := fun y hy => hW'.lt y hy
  have hr : Reps K0 W [v0, v1] [.slice (encPreds x0), .slice (intVs x1)] := .cons a0 (.cons a1 .nil)
  obtain ⟨st', hev⟩ := run8 x0 b0 c0 x1
  obtain ⟨nn, hrun⟩ := EvF_fuel hev
  refine (law_calls (n := nn) (f := 8) (xs := [.slice (encPreds x0), .slice (intVs x1)]) (gS_calls nn) (by rw [hrun]) (W := W) (args := #[v0, v1]) hr).mono ?_
  rintro e W' ⟨rfl, hn⟩
  refine ⟨_, rfl, _, _, _, [], p0 ++ (p1 ++ []), [], hW', ?_, ?_, rfl, hn.frame _, fun h => by cases h⟩
  · exact trodAll_mk1 (shut_bool Try.underlying4 true)
  · exact ⟨p0, _, Below.trod Try.laidOut (by kernel_rfl) (of_decide_eq_true (by kernel_rfl)) h0 hn (fun y hy => hlt y (by simp [hy])), ⟨p1, _, Below.trod Try.laidOut (by kernel_rfl) (of_decide_eq_true (by kernel_rfl)) h1 hn (fun y hy => hlt y (by simp [hy])), rfl, rfl⟩, rfl⟩
theorem filterReduces_holds : Rows.FilterReducesSaid :=
  OpenClaim.holds_of_wide 8 Try.f8 rfl rfl rfl rfl rfl rfl rfl ⟨rfl, rfl, rfl, rfl, rfl⟩ rfl rfl rfl rfl rfl (by kernel_rfl) Try.func8 (by kernel_rfl)
    (of_decide_eq_true (by kernel_rfl)) (by unfold Func.isWrapper; first | (rw [if_pos (by decide +kernel)]; kernel_rfl) | (rw [if_neg (by decide +kernel)]; exact ⟨rfl, rfl⟩))
    (fun os started H enc _ => filterReduces_lifted os started H enc)
#print axioms filterReduces_holds
end Go.Proofs.Ytclpbfkbpcjejaa
