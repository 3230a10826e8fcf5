/- Of any filters, any attributes, each answer is as the document says. Part 7. -/
import Derived.SizedLaws
import Derived.Test.YtclpbfkbpcjejaaK6
namespace Go.Proofs.Ytclpbfkbpcjejaa
open Go Go.Ab
set_option linter.unusedVariables false
set_option linter.unusedSimpArgs false
set_option linter.unnecessarySimpa false
set_option maxRecDepth 20000
noncomputable section
variable (fr : Fr) (st : St) (k : Kt)
def fi35 : FI := { body := codeOf Try.f35, ntmps := 57, results := [.tmp 2], pers := [0, 2, 3, 4, 5, 6, 7], locals := [6], pure := false, marks := [43, 1000000] }
theorem fi35_eq : gS.fn 35 = some fi35 := by kernel_rfl
theorem st35 (a0 : V) : startFr fi35 [a0] = { ps := [(0, .val a0), (2, .any), (3, .any), (4, .any), (5, .any), (6, .any), (7, .any)], ts := [], lc := [] } := rfl
def b35 : Code := mini (codeOf Try.f35)
def c35_12 : Code := .cond (.tmp 16) .skip (.exit 0)
def c35_10 : Code := .seq (codeN b35 267) c35_12
def c35_29 : Code := .cond (.tmp 37) .skip (.exit 2)
def c35_27 : Code := .seq (codeN b35 134731) c35_29
def c35_33 : Code := codeN b35 167499
def c35_32 : Code := .block 3 c35_33
def c35_26 : Code := .seq c35_27 c35_32
def c35_25 : Code := .loop c35_26
def r35_37 : Array Oper := regOps (codeN (codeOf Try.f35) 48715)
def c35_37 : Code := .region 11 r35_37 true
def q35_37 : List (Oper × Fl) := [(mv 44 3 49, ⟨true, false, true, false, false, false, true, true, false, false, []⟩),
 (mv 45 7 3, ⟨true, false, true, false, false, false, true, true, false, false, []⟩),
 (op1 46 (.binOp .add 3 (.tmp 45) (.const (.int .i64 1)) 3) 3, ⟨true, false, true, false, false, false, true, true, false, false, []⟩),
 (op1 47 (.slice 49 (.tmp 44) (some (.tmp 46)) none none) 49, ⟨true, false, true, false, false, false, true, true, false, false, []⟩),
 (mv 48 3 49, ⟨true, false, true, false, false, false, true, true, false, false, []⟩),
 (mv 49 7 3, ⟨true, false, true, false, true, false, true, true, false, false, []⟩),
 (op1 50 (.slice 49 (.tmp 48) (some (.tmp 49)) none none) 49, ⟨true, false, true, false, true, false, true, true, false, false, []⟩),
 (op1 51 (.call { callee := (.builtin .copy), args := #[(.tmp 47), (.tmp 50)], argTypes := #[49, 49] }) 3, ⟨false, true, true, false, true, false, true, true, false, false, []⟩)]
def c35_38 : Code := codeN b35 65099
def c35_36 : Code := .seq c35_37 c35_38
def c35_34 : Code := .seq (codeN b35 24139) c35_36
theorem e35_34 : evK gS fi35 c35_34 fr st k = opsR gS fi35 [mv 40 3 49,
 op1 41 (.build 27 #[]) 27,
 op1 42 (.buildSlice 49 1 #[(0, (.tmp 41))]) 49,
 op1 43 (.call { callee := (.builtin .append), args := #[(.tmp 40), (.tmp 42)], argTypes := #[49, 49] }) 49,
 asn 3 43 49] fr st (.seq c35_36 k) := evK_rs 10 rfl (by kernel_rfl)
def c35_23 : Code := .seq (.block 2 c35_25) c35_34
def c35_21 : Code := .seq (codeN b35 5707) c35_23
def c35_19 : Code := .seq (codeN b35 2635) c35_21
def c35_17 : Code := .seq (codeN b35 1099) c35_19
def c35_39 : Code := codeN b35 459
def c35_15 : Code := .seq (.block 1 c35_17) c35_39
def c35_9 : Code := .seq c35_10 c35_15
def c35_8 : Code := .loop c35_9
def c35_7 : Code := .block 0 c35_8
def c35_5 : Code := .seq (codeN b35 19) c35_7
def c35_40 : Code := .seq (codeN b35 23) .ret
def c35_4 : Code := .seq c35_5 c35_40
def c35_2 : Code := .seq (codeN b35 5) c35_4
def c35_0 : Code := .seq (codeN b35 2) c35_2
theorem E35 : evK gS fi35 c35_12 fr st k = condK gS fi35 (fr.op (.tmp 16)).bool? .skip (.exit 0) fr st k ∧
 (evK gS fi35 c35_10 fr st k = opsR gS fi35 [mv 10 4 3,
 op1 11 (.binOp .gtr 3 (.tmp 10) (.const (.int .i64 0)) 3) 4,
 mv 12 11 4,
 mk (some 13) (.move (.tmp 3)) 49 (some (2, true)),
 mk (some 14) (.call { callee := (.builtin .len), args := #[(.tmp 13)], argTypes := #[49] }) 3 (some (2, true)),
 mk (some 15) (.binOp .lss 3 (.tmp 14) (.const (.int .i64 3)) 3) 4 (some (2, true)),
 op1 16 (.pick (.tmp 12) (.tmp 15) (.const (.bool false))) 4] fr st (.seq c35_12 k)) ∧
 evK gS fi35 c35_29 fr st k = condK gS fi35 (fr.op (.tmp 37)).bool? .skip (.exit 2) fr st k ∧
 (evK gS fi35 c35_27 fr st k = opsR gS fi35 [mv 26 7 3,
 op1 27 (.binOp .gtr 3 (.tmp 26) (.const (.int .i64 0)) 3) 4,
 mv 28 27 4,
 mk (some 29) (.move (.tmp 3)) 49 (some (2, true)),
 mk (some 30) (.move (.tmp 7)) 3 (some (2, true)),
 mk (some 31) (.binOp .sub 3 (.tmp 30) (.const (.int .i64 1)) 3) 3 (some (2, true)),
 mk (some 32) (.indexAddr 49 (.tmp 29) (.tmp 31)) 0 (some (2, true)),
 mk (some 33) (.fieldAddr 27 (.tmp 32) 0) 0 (some (2, true)),
 mk (some 34) (.load 9 (.tmp 33)) 9 (some (2, true)),
 mk (some 35) (.move (.tmp 5)) 9 (some (2, true)),
 mk (some 36) (.binOp .gtr 9 (.tmp 34) (.tmp 35) 9) 4 (some (2, true)),
 op1 37 (.pick (.tmp 28) (.tmp 36) (.const (.bool false))) 4] fr st (.seq c35_29 k)) ∧
 (evK gS fi35 c35_33 fr st k = opsR gS fi35 [mv 38 7 3,
 op1 39 (.binOp .sub 3 (.tmp 38) (.const (.int .i64 1)) 3) 3,
 asn 7 39 3] fr st k) ∧
 evK gS fi35 c35_32 fr st k = evK gS fi35 c35_33 fr st (.blk 3 k) ∧
 evK gS fi35 c35_26 fr st k = evK gS fi35 c35_27 fr st (.seq c35_32 k) ∧
 evK gS fi35 c35_37 fr st k = drwR gS fi35 r35_37 q35_37 fr st k ∧
 (evK gS fi35 c35_38 fr st k = opsR gS fi35 [mv 52 3 49,
 mv 53 7 3,
 ld 54 27 6 27,
 ixa 55 49 52 53 0,
 sto 27 55 54] fr st k) ∧
 evK gS fi35 c35_36 fr st k = evK gS fi35 c35_37 fr st (.seq c35_38 k) ∧
 evK gS fi35 c35_23 fr st k = evK gS fi35 c35_25 fr st (.blk 2 (.seq c35_34 k)) ∧
 (evK gS fi35 c35_21 fr st k = opsR gS fi35 [mv 24 3 49,
 len1 25 24 49 3,
 asn 7 25 3] fr st (.seq c35_23 k)) ∧
 (evK gS fi35 c35_19 fr st k = opsR gS fi35 [mv 21 0 29,
 mv 22 5 9,
 cal 23 29 [(.tmp 21), (.tmp 22)] [29, 9] 27,
 op1 6 (.alloc 27) 0,
 sto 27 6 23] fr st (.seq c35_21 k)) ∧
 (evK gS fi35 c35_17 fr st k = opsR gS fi35 [mv 19 0 29,
 cal 20 91 [(.tmp 19)] [29] 9,
 asn 5 20 9] fr st (.seq c35_19 k)) ∧
 (evK gS fi35 c35_39 fr st k = opsR gS fi35 [mv 17 4 3,
 op1 18 (.binOp .sub 3 (.tmp 17) (.const (.int .i64 1)) 3) 3,
 asn 4 18 3] fr st k) ∧
 evK gS fi35 c35_15 fr st k = evK gS fi35 c35_17 fr st (.blk 1 (.seq c35_39 k)) ∧
 evK gS fi35 c35_9 fr st k = evK gS fi35 c35_10 fr st (.seq c35_15 k) ∧
 evK gS fi35 c35_7 fr st k = evK gS fi35 c35_8 fr st (.blk 0 k) ∧
 (evK gS fi35 c35_5 fr st k = opsR gS fi35 [mv 8 0 29,
 cal 9 16 [(.tmp 8), (.const (.int .i64 4))] [29, 3] 3,
 asn 4 9 3] fr st (.seq c35_7 k)) ∧
 (evK gS fi35 c35_40 fr st k = opsR gS fi35 [mv 56 3 49,
 asn 2 56 49] fr st (.seq .ret k)) ∧
 evK gS fi35 c35_4 fr st k = evK gS fi35 c35_5 fr st (.seq c35_40 k) ∧
 evK gS fi35 c35_2 fr st k = opsR gS fi35 [op1 3 (.assign (.const (.slice none 0 0))) 49] fr st (.seq c35_4 k) ∧
 evK gS fi35 c35_0 fr st k = opsR gS fi35 [op1 2 (.assign (.const (.slice none 0 0))) 49] fr st (.seq c35_2 k) := ⟨rfl, evK_rs 3 rfl (by kernel_rfl), rfl, evK_rs 8 rfl (by kernel_rfl), evK_r 9 (by kernel_rfl), rfl, rfl, evK_dr 11 rfl (by kernel_rfl) (by kernel_rfl), evK_r 12 (by kernel_rfl), rfl, rfl, evK_rs 7 rfl (by kernel_rfl), evK_rs 6 rfl (by kernel_rfl), evK_rs 5 rfl (by kernel_rfl), evK_r 4 (by kernel_rfl), rfl, rfl, rfl, evK_rs 2 rfl (by kernel_rfl), evK_rs 13 rfl (by kernel_rfl), rfl, evK_rs 1 rfl (by kernel_rfl), evK_rs 0 rfl (by kernel_rfl)⟩
theorem m35 : mini fi35.body = c35_0 := by kernel_rfl
theorem n35_25 (fr : Fr) (st : St) (k : Kt) : nextK gS fi35 (.loop c35_26 k) .normal fr st = evK gS fi35 c35_25 fr st k := rfl
theorem n35_8 (fr : Fr) (st : St) (k : Kt) : nextK gS fi35 (.loop c35_9 k) .normal fr st = evK gS fi35 c35_8 fr st k := rfl
set_option maxHeartbeats 8000000 in
theorem I35 (nm : List UInt8) (f : List Pred) (idl : Nat) (st : St) (ho : St.obj st idl = some (f.flatMap Pred.cells)) (hfn : f.length < 1000) (R : Out × St) (e0 e4 : E) (h0 : e0.Tame) (h4 : e4.Tame) (X : List (Nat × List V)) (at0 : Nat)
    (H : ∀ T, evK gS fi35 c35_34 { ps := [(0, e0), (2, .own 0 []), (3, .val (.sref false 13 idl 0 f.length)), (4, e4), (5, .val (.str nm)), (6, .lp 6 0), (7, .val (.int .i64 at0))], ts := T, lc := X } st (.blk 1 (.seq c35_39 (.loop c35_9 (.blk 0 (.seq c35_40 .nil))))) = some R) :
    ∀ (k : Nat) (T : List (Nat × E)), k ≤ f.length → at0 = insN f nm k →
    evK gS fi35 c35_25 { ps := [(0, e0), (2, .own 0 []), (3, .val (.sref false 13 idl 0 f.length)), (4, e4), (5, .val (.str nm)), (6, .lp 6 0), (7, .val (.int .i64 k))], ts := T, lc := X } st (.blk 2 (.seq c35_34 (.blk 1 (.seq c35_39 (.loop c35_9 (.blk 0 (.seq c35_40 .nil))))))) = some R := by
  intro k
  have hm : fi35.marks = [43, 1000000] := rfl
  have hl : fi35.locals = [6] := rfl
  have hr : fi35.results = [.tmp 2] := rfl
  induction k with
  | zero =>
    intro T hk hat
    refine evK_loop c35_26 _ _ _ _ rfl ?_
    have h00 : insN f nm 0 = 0 := rfl
    rw [h00] at hat
    subst hat
    simp only [show ((0 : Nat) : Int) = 0 from rfl] at H ⊢
    simp [-St.obj, -St.set, h0, h4, H, -Int.not_le, -Int.not_lt, -Nat.not_le, -Nat.not_lt, ty3, ty4, ty9, ty27, ty29, ty49, hm, hl, hr, fi16_eq, fi29_eq, fi91_eq, E35, q35_37, n35_25, n35_8]
  | succ k ih =>
    intro T hk hat
    refine evK_loop c35_26 _ _ _ _ rfl ?_
    obtain ⟨x, hx⟩ : ∃ x, f[k]? = some x := ⟨f[k]'(by omega), List.getElem?_eq_getElem (by omega)⟩
    have hget := row_get Pred.cells 13 pcells_len hx (j := 0) (by omega)
    have hc0 : (Pred.cells x)[0]? = some (.str x.name) := rfl
    rw [hc0, Nat.add_zero] at hget
    have hins : insN f nm (k + 1) = if sgt x.name nm then insN f nm k else k + 1 := by
      show (if sgt ((f[k]?).getD ⟨[], 0, vzero, vzero, []⟩).name nm then insN f nm k else k + 1) = _
      rw [hx]; rfl
    rw [hins] at hat
    have hw1 : IntKind.wrap .i64 (((k + 1 : Nat) : Int) - 1) = (k : Int) := by rw [wrap64 (by omega) (by omega)]; omega
    have hp : (0 : Int) < ((k + 1 : Nat) : Int) := by omega
    have hlt : (k : Int) < (f.length : Int) := by omega
    have hlt2 : k < f.length := by omega
    have hsg : (!(Op.bytesLess x.name nm || decide (x.name = nm))) = sgt x.name nm := rfl
    cases hs : sgt x.name nm with
    | true =>
      rw [hs] at hsg hat
      have IH := fun T => ih T (by omega) (by rw [hat]; rfl)
      simp [-Int.natCast_add, -Bool.not_or, -St.obj, -St.set, h0, h4, ho, hget, hw1, hp, hlt, hlt2, hsg, IH, -Int.not_le, -Int.not_lt, -Nat.not_le, -Nat.not_lt, ty3, ty4, ty9, ty27, ty29, ty49, hm, hl, hr, fi16_eq, fi29_eq, fi91_eq, E35, q35_37, n35_25, n35_8]
    | false =>
      rw [hs] at hsg hat
      have hat2 : at0 = k + 1 := by rw [hat]; rfl
      subst hat2
      simp [-Int.natCast_add, -Bool.not_or, -St.obj, -St.set, h0, h4, ho, hget, hw1, hp, hlt, hlt2, hsg, H, -Int.not_le, -Int.not_lt, -Nat.not_le, -Nat.not_lt, ty3, ty4, ty9, ty27, ty29, ty49, hm, hl, hr, fi16_eq, fi29_eq, fi91_eq, E35, q35_37, n35_25, n35_8]
theorem ins_shift (f : List Pred) (z p : Pred) {i : Nat} (hi : i ≤ f.length) :
    (((f ++ [z]).take (i + 1) ++ ((f ++ [z]).drop i).take (f.length - i)).take i ++ [p] ++ ((f ++ [z]).take (i + 1) ++ ((f ++ [z]).drop i).take (f.length - i)).drop (i + 1)) = f.take i ++ p :: f.drop i := by
  have h1 : ((f ++ [z]).take (i + 1)).length = i + 1 := by simp; omega
  rw [List.take_append_of_le_length (by omega), List.take_take, Nat.min_eq_left (by omega), List.take_append_of_le_length hi, List.drop_append, h1, Nat.sub_self, List.drop_zero, List.drop_of_length_le (by omega), List.nil_append]
  rw [List.drop_append_of_le_length hi, List.take_append_of_le_length (by simp), List.take_of_length_le (l := f.drop i) (by simp)]
  simp
set_option maxHeartbeats 8000000 in
theorem T35_34 (f : List Pred) (hne : f ≠ []) (p : Pred) (hfn : f.length < 1000) (i : Nat) (hi : i ≤ f.length) (id m q : Nat) (st : St) (h : FeedOk st id) (l : List Int) (A : Nat) (nm : List UInt8) (r : Nat) (hr : r < 1000) (R : Out × St)
    (e0 : E) (h0 : e0.Tame) (X : List (Nat × List V)) (hx : lk X 6 = some p.cells) (T : List (Nat × E))
    (IH : ∀ T, evK gS fi35 c35_8 { ps := [(0, e0), (2, .own 0 []), (3, .val (.sref false 13 (st.objs.length + (m + 1 + q)) 0 (f.length + 1))), (4, .val (.int .i64 r)), (5, .val (.str nm)), (6, .lp 6 0), (7, .val (.int .i64 i))], ts := T, lc := X } (setF (nw st (m + 1 + q) ((f.take i ++ p :: f.drop i).flatMap Pred.cells)) id l A) (.blk 0 (.seq c35_40 .nil)) = some R) :
    evK gS fi35 c35_34 { ps := [(0, e0), (2, .own 0 []), (3, .val (.sref false 13 (st.objs.length + m) 0 f.length)), (4, .val (.int .i64 ((r + 1 : Nat) : Int))), (5, .val (.str nm)), (6, .lp 6 0), (7, .val (.int .i64 i))], ts := T, lc := X } (setF (dd (nw st m (f.flatMap Pred.cells)) q) id l A) (.blk 1 (.seq c35_39 (.loop c35_9 (.blk 0 (.seq c35_40 .nil))))) = some R := by
  have hm : fi35.marks = [43, 1000000] := rfl
  have hl : fi35.locals = [6] := rfl
  have hr : fi35.results = [.tmp 2] := rfl
  have ho := obj_mid h m q (f.flatMap Pred.cells) l A
  have hk := set_mid h m q (f.flatMap Pred.cells) l A
  have hn := fun fr k len cs => newRef_dd h fr (m + 1 + q) k len cs l A
  have hz : f.flatMap Pred.cells ++ [.str [], .int .i64 0, .int .i64 0, .int .i64 0, .float .f64 0, .str [], .bool false, .int .i64 0, .int .i64 0, .float .f64 0, .str [], .bool false, .slice []] = (f ++ [pzero]).flatMap Pred.cells := by simp [pzero, vzero, encVals]
  have hst := row_strip Pred.cells Pred.cells pcells_strip f
  have hon := row_one Pred.cells pcells_one f
  have hle := row_len Pred.cells 13 pcells_len f
  have hfl : 0 < f.length := List.length_pos_iff.2 hne
  have b1 : (f.length + 1) * 144 ≤ 140737488355328 := by omega
  have b2 : f.length + 1 ≤ 140737488355328 := by omega
  have hw1 : IntKind.wrap .i64 ((i : Int) + 1) = ((i + 1 : Nat) : Int) := by rw [wrap64 (by omega) (by omega)]; omega
  have hw2 : IntKind.wrap .i64 (((r + 1 : Nat) : Int) - 1) = (r : Int) := by rw [wrap64 (by omega) (by omega)]; omega
  have ho2 := obj_gr h (m + 1 + q) ((f ++ [pzero]).flatMap Pred.cells) l A
  have hel := elems_row ho2 false (i := i) (by simp; omega)
  rw [List.length_append, List.length_singleton] at hel
  have hlen : (f ++ [pzero]).length = f.length + 1 := by simp
  generalize hE0 : f ++ [pzero] = E0 at *
  have hsh := ins_shift f pzero p hi
  rw [hE0] at hsh
  have hs1 := sizes_preds (E0.drop i)
  have hdl : (E0.drop i).length = f.length + 1 - i := by simp [hlen]
  have c1 : ((i + 1 : Nat) : Int) ≤ (f.length : Int) + 1 := by omega
  have c2 : (i : Int) ≤ (f.length : Int) + 1 := by omega
  have c3 : (i : Int) < (f.length : Int) + 1 := by omega
  have hst2 := fun cs cs' => set_gr' h (m + 1 + q) cs cs' l A
  have hspl := row_splices Pred.cells 13 pcells_len E0 ((E0.drop i).take (f.length - i)) (i + 1) (by rw [List.length_take, hdl, hlen]; omega)
  have hE1 : E0.take (i + 1) ++ (E0.drop i).take (f.length - i) ++ E0.drop (i + 1 + ((E0.drop i).take (f.length - i)).length) = E0.take (i + 1) ++ (E0.drop i).take (f.length - i) := by
    have hd0 : E0.drop (i + 1 + ((E0.drop i).take (f.length - i)).length) = [] := List.drop_of_length_le (by rw [List.length_take, hdl, hlen]; omega)
    rw [hd0, List.append_nil]
  rw [hE1] at hspl
  generalize hE1g : E0.take (i + 1) ++ (E0.drop i).take (f.length - i) = E1 at *
  have hl1 : E1.length = f.length + 1 := by rw [← hE1g, List.length_append, List.length_take, List.length_take, hdl, hlen]; omega
  have hspl2 := row_splices Pred.cells 13 pcells_len E1 [p] i (by rw [hl1, List.length_singleton]; omega)
  rw [List.length_singleton, hsh] at hspl2
  have hpc : [p].flatMap Pred.cells = p.cells := by simp
  rw [hpc] at hspl2
  simp only [Pred.cells] at hspl2 hx
  have hmc : ∀ k, ((encPreds (E0.drop i)).take k).flatMap V.cells = ((E0.drop i).take k).flatMap Pred.cells := fun k => by
    rw [show (encPreds (E0.drop i)).take k = encPreds ((E0.drop i).take k) from by simp [encPreds], enc_cells]
  have hone := row_one Pred.cells pcells_one ((E0.drop i).take (f.length - i))
  have hrl := row_len Pred.cells 13 pcells_len ((E0.drop i).take (f.length - i))
  have ho1 := obj_gr h (m + 1 + q) (E1.flatMap Pred.cells) l A
  have hcp : ∀ n : Nat, (f.length + 1 - i - (n + 1)) = f.length - i - n := fun n => by omega
  have hsz : splice [.str [], .int .i64 0, .int .i64 0, .int .i64 0, .float .f64 0, .str [], .bool false, .int .i64 0, .int .i64 0, .float .f64 0, .str [], .bool false, .osl 0 []] 0 [.str [], .int .i64 0, .int .i64 0, .int .i64 0, .float .f64 0, .str [], .bool false, .int .i64 0, .int .i64 0, .float .f64 0, .str [], .bool false, .slice []] = some [.str [], .int .i64 0, .int .i64 0, .int .i64 0, .float .f64 0, .str [], .bool false, .int .i64 0, .int .i64 0, .float .f64 0, .str [], .bool false, .slice []] := rfl
  have heo : ∀ (ea : Bool) (k : Nat) (st : St) (n : Nat) (xs : List V), elemsAt ea k st (.own n xs) = some xs := fun _ _ _ _ _ => rfl
  by_cases hil : i = f.length
  · have hE01 : E1 = E0 := by
      rw [← hE1g, hil, Nat.sub_self, List.take_zero, List.append_nil, List.take_of_length_le (by omega)]
    subst hil
    rw [Nat.add_sub_cancel_left] at hel
    rw [hE01] at hspl2
    clear hE1 hE1g hspl hsh hone hrl ho1 hcp hmc hpc
    have hd1 : (E0.drop f.length).length = 1 := by rw [hdl]; omega
    simp [-Int.natCast_add, -St.obj, -St.set, -splice, h0, ho, hk, hn, hz, hst, hon, hle, hfl, b1, b2, hw1, hw2, ho2, hel, hlen, hs1, hd1, hspl2, hst2, hsz, heo, copyStep, markStep, markAppend, hx, IH, -Int.not_le, -Int.not_lt, -Nat.not_le, -Nat.not_lt, ty3, ty4, ty9, ty27, ty29, ty49, hm, hl, hr, fi16_eq, fi29_eq, fi91_eq, E35, q35_37, e35_34, n35_25, n35_8]
    simpa [Pred.cells] using IH [(18, .val (.int .i64 (r : Int))), (17, .val (.int .i64 ((r + 1 : Nat) : Int)))]
  · have hmin : min (f.length + 1 - i) (f.length - i) = f.length - i := by omega
    have hlei : ¬ f.length ≤ i := by omega
    have hne0 : ¬ (f.length - i = 0) := by omega
    have hrl2 : (((E0.drop i).take (f.length - i)).flatMap Pred.cells).length = (f.length - i) * 13 := by rw [hrl, List.length_take, hdl]; congr 1; omega
    have hpos2 : 0 < (f.length - i) * 13 := by omega
    have hpos3 : i < f.length := by omega
    have c6 : ((i + 1 : Nat) : Int) ≤ ((f.length + 1 : Nat) : Int) := by omega
    have c7 : (i : Int) ≤ ((f.length + 1 : Nat) : Int) := by omega
    have c8 : (i : Int) < ((f.length + 1 : Nat) : Int) := by omega
    have c9 : (0 : Int) ≤ ((i + 1 : Nat) : Int) := by omega
    have c10 : ¬ i = f.length + 1 := by omega
    simp [-Int.natCast_add, -List.flatMap_append, -St.obj, -St.set, -splice, h0, ho, hk, hn, hz, hst, hon, hle, hfl, b1, b2, hw1, hw2, ho1, ho2, hel, hlen, hs1, hdl, hmin, hlei, hne0, hrl2, hpos2, hpos3, hil, c6, c7, c8, c9, c10, hmc, hone, hspl, hspl2, hst2, hsz, heo, copyStep, markStep, markAppend, hx, -Int.not_le, -Int.not_lt, -Nat.not_le, -Nat.not_lt, ty3, ty4, ty9, ty27, ty29, ty49, hm, hl, hr, fi16_eq, fi29_eq, fi91_eq, E35, q35_37, e35_34, n35_25, n35_8]
    exact IH _
set_option maxHeartbeats 8000000 in
theorem L35 (l : List Int) (a id : Nat) (ha : a < 549755813888) (st : St) (h : FeedOk st id) : ∀ (r j m : Nat) (f : List Pred) (e5 e6 e7 : E) (T : List (Nat × E)) (X : List (Nat × List V)) (h5 : e5.Tame) (h6 : e6.Tame) (h7 : e7.Tame), f ≠ [] → f.length + r ≤ 3 → j + 20 * r < 549755810000 →
    evK gS fi35 c35_8 { ps := [(0, .val (.ptr id 0)), (2, .own 0 []), (3, .val (.sref false 13 (st.objs.length + m) 0 f.length)), (4, .val (.int .i64 r)), (5, e5), (6, e6), (7, e7)], ts := T, lc := X } (setF (nw st m (f.flatMap Pred.cells)) id l (nA l a j)) (.blk 0 (.seq c35_40 .nil)) = some (.ret (.slice (encPreds (filterG l a r j (m + 1) f).1)) none, setF (dd st (filterG l a r j (m + 1) f).2.2) id l (nA l a (filterG l a r j (m + 1) f).2.1)) := by
  intro r
  have hm : fi35.marks = [43, 1000000] := rfl
  have hl : fi35.locals = [6] := rfl
  have hr : fi35.results = [.tmp 2] := rfl
  induction r with
  | zero =>
    intro j m f e5 e6 e7 T X h5 h6 h7 hne hlr hj
    refine evK_loop c35_9 _ _ _ _ rfl ?_
    have hz := frz_preds 5 (st.objs.length + m) f hne (obj_gr h m _ l (nA l a j)) (set_gr h m _ l (nA l a j))
    rw [show filterG l a 0 j (m + 1) f = (f, j, m + 1) from rfl]
    simp [-St.obj, -St.set, h5, h6, h7, hz, -Int.not_le, -Int.not_lt, -Nat.not_le, -Nat.not_lt, ty3, ty4, ty9, ty27, ty29, ty49, hm, hl, hr, fi16_eq, fi29_eq, fi91_eq, E35, q35_37, e35_34, n35_25, n35_8]
  | succ r ih =>
    intro j m f e5 e6 e7 T X h5 h6 h7 hne hlr hj
    refine evK_loop c35_9 _ _ _ _ rfl ?_
    have hn := fun fr => k91 l a j id fr (nw st m (f.flatMap Pred.cells)) (h.nw m _) ha (by omega)
    have hp := fun fr => k29 l a (j + 1) id (nameV l a j) fr (nw st m (f.flatMap Pred.cells)) (h.nw m _) ha (by omega)
    have hg : filterG l a (r + 1) j (m + 1) f = filterG l a r (j + 1 + (predV l a (j + 1) (nameV l a j)).2) (m + 1 + (predV l a (j + 1) (nameV l a j)).1.set.length + 1) (insP f (predV l a (j + 1) (nameV l a j)).1 (nameV l a j)) := rfl
    rw [hg]
    have hpa := pred_asks l a (j + 1) (nameV l a j)
    generalize nameV l a j = nm at *
    generalize predV l a (j + 1) nm = P at *
    obtain ⟨p, k⟩ := P
    simp only at hp hg hpa ⊢
    have c1 : (0 : Int) < ((r + 1 : Nat) : Int) := by omega
    have c2 : (f.length : Int) < 3 := by omega
    have c3 : f.length < 3 := by omega
    have hil := insP_length f p nm
    have hi := insN_le f nm f.length
    have ipe : insP f p nm ≠ [] := by intro e; rw [e] at hil; simp at hil
    have IH := fun T X => ih (j + 1 + k) (m + 1 + p.set.length) (insP f p nm) (.val (.str nm)) (.lp 6 0) (.val (.int .i64 (insN f nm f.length))) T X rfl rfl rfl ipe (by rw [hil]; omega) (by omega)
    rw [hil] at IH
    simp only [insP] at IH ⊢
    have TT := fun X hx T => T35_34 f hne p (by omega) (insN f nm f.length) hi id m p.set.length st h l (nA l a (j + 1 + k)) nm r (by omega) _ (.val (.ptr id 0)) rfl X hx T (fun T => IH T X)
    have II := fun X hx T => I35 nm f (st.objs.length + m) (setF (dd (nw st m (f.flatMap Pred.cells)) p.set.length) id l (nA l a (j + 1 + k))) (obj_mid h m p.set.length _ l _) (by omega) _ (.val (.ptr id 0)) (.val (.int .i64 ((r + 1 : Nat) : Int))) rfl rfl X (insN f nm f.length) (fun T => TT X hx T) f.length T (Nat.le_refl _) rfl
    simp [-Int.natCast_add, -St.obj, -St.set, -List.flatMap_append, h5, h6, h7, hn, hp, c1, c2, c3, -Int.not_le, -Int.not_lt, -Nat.not_le, -Nat.not_lt, ty3, ty4, ty9, ty27, ty29, ty49, hm, hl, hr, fi16_eq, fi29_eq, fi91_eq, E35, q35_37, e35_34, n35_25, n35_8]
    refine II _ ?_ _
    simp
set_option maxHeartbeats 8000000 in
theorem c35 (l : List Int) (a j id : Nat) (st : St) (h : FeedOk st id) (ha : a < 549755813888) (hj : j < 549755809000) :
    EvF gS 35 [.ptr id 0] (setF st id l (nA l a j)) = some (.ret (.slice (encPreds (filterV l a j).1)) none, setF (dd st (filterV l a j).2.2) id l (nA l a (filterV l a j).2.1)) := by
  refine EvF_start fi35_eq (fun x h => by cases h) m35 ?_
  rw [st35]
  have hm : fi35.marks = [43, 1000000] := rfl
  have hl : fi35.locals = [6] := rfl
  have hr : fi35.results = [.tmp 2] := rfl
  have hb := fd_bound l a j (n := 4) (by omega)
  have hk := fun fr => k16 l a j id 4 fr st h ha (by omega) (by omega)
  unfold filterV
  generalize fd l a j 4 = z at *
  obtain ⟨r, rfl⟩ : ∃ r : Nat, z = (r : Int) := ⟨z.toNat, by omega⟩
  rw [Int.toNat_natCast]
  simp [-St.obj, -St.set, hk, -Int.not_le, -Int.not_lt, -Nat.not_le, -Nat.not_lt, ty3, ty4, ty9, ty27, ty29, ty49, hm, hl, hr, fi16_eq, fi29_eq, fi91_eq, E35, q35_37, e35_34, n35_25, n35_8]
  cases r with
  | zero =>
    refine evK_loop c35_9 _ _ _ _ rfl ?_
    have hz : ∀ st, frz 6 st (.slice []) = some (.slice [], st) := fun st => frz_flat 6 st _ rfl
    rw [show filterG l a 0 (j + 1) 0 [] = ([], j + 1, 0) from rfl]
    simp [-St.obj, -St.set, hz, dd_zero, encPreds, -Int.not_le, -Int.not_lt, -Nat.not_le, -Nat.not_lt, ty3, ty4, ty9, ty27, ty29, ty49, hm, hl, hr, fi16_eq, fi29_eq, fi91_eq, E35, q35_37, e35_34, n35_25, n35_8]
  | succ r =>
    refine evK_loop c35_9 _ _ _ _ rfl ?_
    have hn := fun fr => k91 l a (j + 1) id fr st h ha (by omega)
    have hp := fun fr => k29 l a (j + 1 + 1) id (nameV l a (j + 1)) fr st h ha (by omega)
    have hg : filterG l a (r + 1) (j + 1) 0 [] = filterG l a r (j + 1 + 1 + (predV l a (j + 1 + 1) (nameV l a (j + 1))).2) (0 + (predV l a (j + 1 + 1) (nameV l a (j + 1))).1.set.length + 1) (insP [] (predV l a (j + 1 + 1) (nameV l a (j + 1))).1 (nameV l a (j + 1))) := rfl
    rw [hg]
    have hpa := pred_asks l a (j + 1 + 1) (nameV l a (j + 1))
    generalize nameV l a (j + 1) = nm at *
    generalize predV l a (j + 1 + 1) nm = P at *
    obtain ⟨p, k⟩ := P
    simp only at hp hg hpa ⊢
    rw [show insP [] p nm = [p] from rfl, Nat.zero_add]
    have c1 : (0 : Int) < ((r + 1 : Nat) : Int) := by omega
    have LL := fun e5 e6 e7 T X h5 h6 h7 => L35 l a id ha st h r (j + 1 + 1 + k) p.set.length [p] e5 e6 e7 T X h5 h6 h7 (by simp) (by simp; omega) (by omega)
    have hpc : [p].flatMap Pred.cells = p.cells := by simp
    rw [hpc] at LL
    simp only [Pred.cells, List.length_singleton] at LL
    have hnr := fun fr kk len cs => newRef_dd h fr p.set.length kk len cs l (nA l a (j + 1 + 1 + k))
    have ho2 := fun cs => obj_gr h p.set.length cs l (nA l a (j + 1 + 1 + k))
    have hst2 := fun cs cs' => set_gr' h p.set.length cs cs' l (nA l a (j + 1 + 1 + k))
    have heo : ∀ (ea : Bool) (k : Nat) (st : St) (n : Nat) (xs : List V), elemsAt ea k st (.own n xs) = some xs := fun _ _ _ _ _ => rfl
    have hw2 : IntKind.wrap .i64 (((r + 1 : Nat) : Int) - 1) = (r : Int) := by rw [wrap64 (by omega) (by omega)]; omega
    have hel1 : elemsAt true 13 (setF (nw st p.set.length [.str [], .int .i64 0, .int .i64 0, .int .i64 0, .float .f64 0, .str [], .bool false, .int .i64 0, .int .i64 0, .float .f64 0, .str [], .bool false, .slice []]) id l (nA l a (j + 1 + 1 + k))) (.val (.sref false 13 (st.objs.length + p.set.length) 0 1)) = some (encPreds [pzero]) := elems_row (l := [pzero]) (ho2 _) false (i := 0) (Nat.zero_le _)
    have hs1 := sizes_preds [pzero]
    simp [-Int.natCast_add, -St.obj, -St.set, hn, hp, c1, -Int.not_le, -Int.not_lt, -Nat.not_le, -Nat.not_lt, ty3, ty4, ty9, ty27, ty29, ty49, hm, hl, hr, fi16_eq, fi29_eq, fi91_eq, E35, q35_37, e35_34, n35_25, n35_8]
    refine evK_loop c35_26 _ _ _ _ rfl ?_
    simp [-Int.natCast_add, -St.obj, -St.set, hnr, ho2, hst2, heo, hw2, w64_1, hel1, hs1, copyStep, markStep, markAppend, -Int.not_le, -Int.not_lt, -Nat.not_le, -Nat.not_lt, ty3, ty4, ty9, ty27, ty29, ty49, hm, hl, hr, fi16_eq, fi29_eq, fi91_eq, E35, q35_37, e35_34, n35_25, n35_8]
    exact LL _ _ _ _ _ rfl rfl rfl
theorem k35 (l : List Int) (a j id : Nat) (fr : Fr) (st : St) (h : FeedOk st id) (ha : a < 549755813888) (hj : j < 549755809000) :
    callStep gS (EvF gS) 35 [.ptr id 0] fr (setF st id l (nA l a j)) = some (.ok (.val (.slice (encPreds (filterV l a j).1))) (fr.map E.noMem) (setF (dd st (filterV l a j).2.2) id l (nA l a (filterV l a j).2.1))) := by
  unfold callStep
  simp only [show gS.ext 35 = none from rfl, fi35_eq, show fi35.pure = false from rfl, Bool.false_eq_true, if_false, c35 l a j id st h ha hj, retE]
  all_goals rfl
end
end Go.Proofs.Ytclpbfkbpcjejaa
namespace Go.Ab
open Go
set_option linter.unusedVariables false
set_option linter.unusedSimpArgs false
set_option linter.unnecessarySimpa false
def okNames : Bool := N4.all fun x => N4.all fun y => (N4.all fun z => sgt x y || sgt y z || !sgt x z) && (!sgt x y || !sgt y x) && isWord x
theorem names_ok : okNames = true := by kernel_rfl
def NM (x : List UInt8) : Prop := x ∈ N4
theorem nm_trans {x y z : List UInt8} (hx : NM x) (hy : NM y) (hz : NM z) (h1 : sgt x y = false) (h2 : sgt y z = false) : sgt x z = false := by
  have := List.all_eq_true.1 (List.all_eq_true.1 names_ok x hx) y hy
  simp only [Bool.and_eq_true] at this
  have := List.all_eq_true.1 this.1.1 z hz
  rw [h1, h2] at this
  simpa using this
theorem nm_asym {x y : List UInt8} (hx : NM x) (hy : NM y) (h : sgt x y = true) : sgt y x = false := by
  have := List.all_eq_true.1 (List.all_eq_true.1 names_ok x hx) y hy
  simp only [Bool.and_eq_true] at this
  have := this.1.2
  rw [h] at this
  simpa using this
theorem nm_word {x : List UInt8} (hx : NM x) : isWord x = true := by
  have := List.all_eq_true.1 (List.all_eq_true.1 names_ok x hx) x hx
  simp only [Bool.and_eq_true] at this
  exact this.2
theorem nameV_nm (l : List Int) (a j : Nat) : NM (nameV l a j) := by
  unfold NM nameV
  have hlt : (fd l a j 12).toNat / 3 % 4 < N4.length := by show _ < 4; omega
  rw [List.getD_eq_getElem?_getD, List.getElem?_eq_getElem hlt]
  exact List.getElem_mem hlt
/-- Right ones of the row, in their places. -/
structure FFV (f : List Pred) : Prop where
  right : ∀ p ∈ f, pright p = true
  fv : ∀ p ∈ f, PFV p
  nm : ∀ p ∈ f, NM p.name
  srt : f.Pairwise fun x y => sgt x.name y.name = false
theorem ffv_nil : FFV [] := ⟨by simp, by simp, by simp, List.Pairwise.nil⟩
theorem insN_above (f : List Pred) (nm : List UInt8) : ∀ (k i : Nat) (p : Pred), insN f nm k ≤ i → i < k → f[i]? = some p → sgt p.name nm = true
  | 0, i, p, _, h, _ => by omega
  | k + 1, i, p, h1, h2, hp => by
    unfold insN at h1
    split at h1
    · rename_i hs
      by_cases hik : i = k
      · subst hik; rw [hp] at hs; exact hs
      · exact insN_above f nm k i p h1 (by omega) hp
    · omega
theorem insN_below (f : List Pred) (nm : List UInt8) : ∀ (k : Nat) (p : Pred), k ≤ f.length → 0 < insN f nm k → f[insN f nm k - 1]? = some p → sgt p.name nm = false
  | 0, p, _, h, _ => by simp [insN] at h
  | k + 1, p, hk, h, hp => by
    unfold insN at h hp
    split at h
    · rename_i hs
      rw [if_pos hs] at hp
      exact insN_below f nm k p (by omega) h hp
    · rename_i hs
      rw [if_neg hs, Nat.add_sub_cancel] at hp
      rw [hp] at hs
      simpa using hs
theorem ins_ffv {f : List Pred} (h : FFV f) {p : Pred} (h1 : pright p = true) (h2 : PFV p) (h3 : NM p.name) : FFV (insP f p p.name) := by
  have hle := insN_le f p.name f.length
  have hab := insN_above f p.name f.length
  have hbe := insN_below f p.name f.length
  unfold insP
  generalize hi : insN f p.name f.length = i at *
  have mem : ∀ x, x ∈ f.take i ++ p :: f.drop i → x ∈ f ∨ x = p := by
    intro x hx
    rcases List.mem_append.1 hx with hx | hx
    · exact .inl (List.mem_of_mem_take hx)
    · rcases List.mem_cons.1 hx with hx | hx
      · exact .inr hx
      · exact .inl (List.mem_of_mem_drop hx)
  refine ⟨fun x hx => ?_, fun x hx => ?_, fun x hx => ?_, ?_⟩
  · rcases mem x hx with h' | rfl
    · exact h.right x h'
    · exact h1
  · rcases mem x hx with h' | rfl
    · exact h.fv x h'
    · exact h2
  · rcases mem x hx with h' | rfl
    · exact h.nm x h'
    · exact h3
  · have hs := h.srt
    have hsp : f.take i ++ f.drop i = f := List.take_append_drop i f
    rw [← hsp] at hs
    rw [List.pairwise_append] at hs ⊢
    obtain ⟨s1, s2, s3⟩ := hs
    have low : ∀ x ∈ f.take i, sgt x.name p.name = false := by
      intro x hx
      have hpos : 0 < i := by
        cases i with
        | zero => simp at hx
        | succ i => omega
      have hlast : i - 1 < f.length := by omega
      have hb := hbe (f[i - 1]) (Nat.le_refl _) hpos (List.getElem?_eq_getElem hlast)
      obtain ⟨j, hj, rfl⟩ := List.getElem_of_mem hx
      rw [List.length_take] at hj
      rw [List.getElem_take]
      by_cases hji : j = i - 1
      · subst hji; exact hb
      · have hlt : j < i - 1 := by omega
        have hp := List.pairwise_iff_getElem.1 h.srt j (i - 1) (by omega) hlast hlt
        exact nm_trans (h.nm _ (List.getElem_mem _)) (h.nm _ (List.getElem_mem _)) h3 hp hb
    have high : ∀ x ∈ f.drop i, sgt p.name x.name = false := by
      intro x hx
      obtain ⟨j, hj, rfl⟩ := List.getElem_of_mem hx
      rw [List.length_drop] at hj
      rw [List.getElem_drop]
      have := hab (i + j) (f[i + j]'(by omega)) (by omega) (by omega) (List.getElem?_eq_getElem _)
      exact nm_asym (h.nm _ (List.getElem_mem _)) h3 this
    refine ⟨s1, List.pairwise_cons.2 ⟨fun x hx => high x hx, s2⟩, fun x hx y hy => ?_⟩
    rcases List.mem_cons.1 hy with rfl | hy
    · exact low x hx
    · exact s3 x hx y hy
theorem predV_name (l : List Int) (a j : Nat) (nm : List UInt8) : (predV l a j nm).1.name = nm := by
  unfold predV
  simp only
  repeat' split
  all_goals rfl
theorem filterG_ffv (l : List Int) (a : Nat) : ∀ (n j d : Nat) (f : List Pred), FFV f → FFV (filterG l a n j d f).1 ∧ (filterG l a n j d f).1.length = f.length + n
  | 0, j, d, f, h => ⟨h, rfl⟩
  | n + 1, j, d, f, h => by
    have hn := nameV_nm l a j
    have hp := predV_name l a (j + 1) (nameV l a j)
    have h2 := ins_ffv h (p := (predV l a (j + 1) (nameV l a j)).1) (pred_right _ _ _ (nm_word hn)) (pred_fv _ _ _ _) (by rw [hp]; exact hn)
    rw [hp] at h2
    have := filterG_ffv l a n (j + 1 + (predV l a (j + 1) (nameV l a j)).2) (d + (predV l a (j + 1) (nameV l a j)).1.set.length + 1) _ h2
    refine ⟨this.1, ?_⟩
    have h3 := this.2
    rw [insP_length] at h3
    show (filterG l a n _ _ _).1.length = _
    omega
theorem filterV_ffv (l : List Int) (a j : Nat) : FFV (filterV l a j).1 ∧ (filterV l a j).1.length ≤ 3 := by
  have hb := fd_bound l a j (n := 4) (by omega)
  have := filterG_ffv l a (fd l a j 4).toNat (j + 1) 0 [] ffv_nil
  refine ⟨this.1, ?_⟩
  have h2 := this.2
  simp only [List.length_nil, Nat.zero_add] at h2
  unfold filterV
  omega
theorem filterG_bounds (l : List Int) (a : Nat) : ∀ (n j d : Nat) (f : List Pred), (filterG l a n j d f).2.1 ≤ j + 11 * n ∧ (filterG l a n j d f).2.2 ≤ d + 5 * n
  | 0, j, d, f => ⟨by simp [filterG], by simp [filterG]⟩
  | n + 1, j, d, f => by
    have h1 := pred_asks l a (j + 1) (nameV l a j)
    have hn := nm_word (nameV_nm l a j)
    have h2 : (predV l a (j + 1) (nameV l a j)).1.set.length ≤ 4 := by
      have hr := pred_right l a (j + 1) hn
      generalize (predV l a (j + 1) (nameV l a j)).1 = p at hr ⊢
      unfold pright at hr
      split at hr
      · repeat' split at hr
        all_goals first
          | (simp only [Bool.and_eq_true, decide_eq_true_eq] at hr; omega)
          | cases hr
      · cases hr
    have := filterG_bounds l a n (j + 1 + (predV l a (j + 1) (nameV l a j)).2) (d + (predV l a (j + 1) (nameV l a j)).1.set.length + 1) (insP f (predV l a (j + 1) (nameV l a j)).1 (nameV l a j))
    unfold filterG
    omega
theorem filterV_asks (l : List Int) (a j : Nat) : (filterV l a j).2.1 ≤ j + 34 := by
  have hb := fd_bound l a j (n := 4) (by omega)
  have := (filterG_bounds l a (fd l a j 4).toNat (j + 1) 0 []).1
  unfold filterV
  omega
theorem attrsG_asks (l : List Int) (a : Nat) : ∀ (q : List (List UInt8 × Int)) (j : Nat), (attrsG l a q j).2 ≤ j + 3 * q.length
  | [], j => by simp [attrsG]
  | (nm, x) :: r, j => by
    have h1 := attrsG_asks l a r (j + 3)
    have h2 := attrsG_asks l a r (j + 1)
    unfold attrsG
    split
    · simp only [List.length_cons]; omega
    · simp only [List.length_cons]; omega
theorem attrsV_asks (l : List Int) (a j : Nat) : (attrsV l a j).2 ≤ j + 15 := attrsG_asks l a A5 j
theorem attrsG_len (l : List Int) (a : Nat) : ∀ (q : List (List UInt8 × Int)) (j : Nat), (attrsG l a q j).1.length ≤ q.length
  | [], j => by simp [attrsG]
  | (nm, x) :: r, j => by
    have h1 := attrsG_len l a r (j + 3)
    have h2 := attrsG_len l a r (j + 1)
    unfold attrsG
    split
    · simp only [List.length_cons]; omega
    · simp only [List.length_cons]; omega
theorem attrsV_len (l : List Int) (a j : Nat) : (attrsV l a j).1.length ≤ 5 := attrsG_len l a A5 j
theorem vsame_refl (v : Val) : vsame v v = true := by simp [vsame]
theorem sames_refl : ∀ l : List Val, sames l l = true
  | [] => rfl
  | x :: r => by simp [sames, vsame_refl, sames_refl r]
end Go.Ab
namespace Go.Ab
open Go
set_option linter.unusedVariables false
set_option linter.unusedSimpArgs false
set_option linter.unnecessarySimpa false
theorem dd_nw_set (st : St) (m k : Nat) (cs cs' : List V) (h : st.wp ≤ st.objs.length) : St.set (dd (nw st m cs) k) (st.objs.length + m) cs' = some (dd (nw st m cs') k) := by
  unfold St.set
  rw [if_pos (by rw [dd_wp, gr_wp]; omega)]
  unfold dd nw
  simp only [Option.some.injEq, St.mk.injEq, and_true]
  rw [List.append_assoc, List.set_append_right _ _ (by omega), Nat.add_sub_cancel_left, List.append_assoc, List.set_append_right _ _ (by simp), List.length_replicate, Nat.sub_self]
  simp only [List.singleton_append, List.set_cons_zero, List.append_assoc]
theorem set_mid' {st : St} {id : Nat} (h : FeedOk st id) (m k : Nat) (cs cs' : List V) (l : List Int) (a : Nat) : St.set (setF (dd (nw st m cs) k) id l a) (st.objs.length + m) cs' = some (setF (dd (nw st m cs') k) id l a) := by
  have h1 := h.1
  have h2 := h.2
  have hk := dd_nw_set st m k cs cs' (by omega)
  unfold St.set at hk ⊢
  rw [if_pos (by rw [dd_wp, gr_wp]; omega)] at hk
  rw [if_pos (by rw [setF_wp, dd_wp, gr_wp]; omega)]
  have hk2 := Option.some.inj hk
  congr 1
  rw [← hk2]
  unfold setF
  simp only [St.mk.injEq, and_true]
  rw [List.set_comm _ _ (by omega)]
/-- A copy of a filter, one of its tests another one perhaps; where the feed stands then; how many objects were given up. -/
def turnF (l : List Int) (a : Nat) (y : List Pred) (j : Nat) : List Pred × Nat × Nat :=
  if y = [] then (y, j, 0) else
  if fd l a j 2 = 0 then
    (y.take (fd l a (j + 1) y.length).toNat ++ [(predV l a (j + 2) [97]).1] ++ y.drop ((fd l a (j + 1) y.length).toNat + 1), j + 2 + (predV l a (j + 2) [97]).2, y.length + (predV l a (j + 2) [97]).1.set.length)
  else (y, j + 1, y.length)
def halfF (l : List Int) (a : Nat) (L : List (List Pred)) (f : List Pred) (j : Nat) : List Pred × Nat × Nat :=
  if L = [] then (f, j, 0) else
  if fd l a j 4 = 0 then turnF l a (L.getD (fd l a (j + 1) L.length).toNat []) (j + 2) else (f, j + 1, 0)
/-- One more filter. -/
def stepF (raw : List Pred) (l : List Int) (a : Nat) (L : List (List Pred)) (j : Nat) : List Pred × Nat × Nat :=
  (if fd l a (halfF l a L (filterV l a j).1 (filterV l a j).2.1).2.1 12 = 0 then raw.take 5 else (halfF l a L (filterV l a j).1 (filterV l a j).2.1).1,
   (halfF l a L (filterV l a j).1 (filterV l a j).2.1).2.1 + 1, (filterV l a j).2.2 + (halfF l a L (filterV l a j).1 (filterV l a j).2.1).2.2)
def filtersG (raw : List Pred) (l : List Int) (a : Nat) : Nat → List (List Pred) → Nat → Nat → List (List Pred) × Nat × Nat
  | 0, L, j, d => (L, j, d)
  | n + 1, L, j, d => filtersG raw l a n (L ++ [(stepF raw l a L j).1]) (stepF raw l a L j).2.1 (d + (stepF raw l a L j).2.2)
def filtersV (raw : List Pred) (l : List Int) (a j : Nat) (n : Int) : List (List Pred) × Nat × Nat := filtersG raw l a (fd l a j (n + 1)).toNat [] (j + 1) 0
theorem turnF_asks (l : List Int) (a : Nat) (y : List Pred) (j : Nat) : (turnF l a y j).2.1 ≤ j + 12 := by
  unfold turnF
  have := pred_asks l a (j + 2) [97]
  split
  · simp
  · split
    · simp; omega
    · simp
theorem halfF_asks (l : List Int) (a : Nat) (L : List (List Pred)) (f : List Pred) (j : Nat) : (halfF l a L f j).2.1 ≤ j + 14 := by
  unfold halfF
  split
  · simp
  · split
    · have := turnF_asks l a (L.getD (fd l a (j + 1) L.length).toNat []) (j + 2)
      omega
    · simp
theorem stepF_asks (raw : List Pred) (l : List Int) (a : Nat) (L : List (List Pred)) (j : Nat) : (stepF raw l a L j).2.1 ≤ j + 49 := by
  unfold stepF
  have h1 := halfF_asks l a L (filterV l a j).1 (filterV l a j).2.1
  have h2 := filterV_asks l a j
  simp only
  omega
theorem filtersG_asks (raw : List Pred) (l : List Int) (a : Nat) : ∀ (n : Nat) (L : List (List Pred)) (j d : Nat), (filtersG raw l a n L j d).2.1 ≤ j + 49 * n
  | 0, _, _, _ => by simp [filtersG]
  | n + 1, L, j, d => by
    have h1 := filtersG_asks raw l a n (L ++ [(stepF raw l a L j).1]) (stepF raw l a L j).2.1 (d + (stepF raw l a L j).2.2)
    have h2 := stepF_asks raw l a L j
    simp only [filtersG]
    omega
theorem filtersG_len (raw : List Pred) (l : List Int) (a : Nat) : ∀ (n : Nat) (L : List (List Pred)) (j d : Nat), (filtersG raw l a n L j d).1.length = L.length + n
  | 0, _, _, _ => by simp [filtersG]
  | n + 1, L, j, d => by
    simp only [filtersG]
    rw [filtersG_len raw l a n]; simp; omega
theorem filtersV_asks (raw : List Pred) (l : List Int) (a j : Nat) {n : Int} (h : 0 ≤ n) : (filtersV raw l a j n).2.1 ≤ j + 1 + 49 * n.toNat := by
  unfold filtersV
  have := filtersG_asks raw l a (fd l a j (n + 1)).toNat [] (j + 1) 0
  have h2 := fd_bound l a j (n := n + 1) (by omega)
  have : (fd l a j (n + 1)).toNat ≤ n.toNat := by omega
  omega
theorem filtersV_len (raw : List Pred) (l : List Int) (a j : Nat) {n : Int} (h : 0 ≤ n) : (filtersV raw l a j n).1.length ≤ n.toNat := by
  unfold filtersV
  rw [filtersG_len]
  have h2 := fd_bound l a j (n := n + 1) (by omega)
  simp; omega
/-- What holds of each test of each filter. -/
theorem turnF_all {P : Pred → Prop} (l : List Int) (a : Nat) (hp : ∀ j, P (predV l a j [97]).1) (y : List Pred) (hy : ∀ p ∈ y, P p) (j : Nat) : (∀ p ∈ (turnF l a y j).1, P p) ∧ (turnF l a y j).1.length ≤ y.length := by
  unfold turnF
  split
  · exact ⟨hy, Nat.le_refl _⟩
  · rename_i hne
    split
    · have hpos : 0 < y.length := List.length_pos_iff.2 hne
      have hb := fd_bound l a (j + 1) (n := (y.length : Int)) (by omega)
      refine ⟨fun p h => ?_, ?_⟩
      · rcases List.mem_append.1 h with h | h
        · rcases List.mem_append.1 h with h | h
          · exact hy p (List.mem_of_mem_take h)
          · simp at h; subst h; exact hp _
        · exact hy p (List.mem_of_mem_drop h)
      · simp; omega
    · exact ⟨hy, Nat.le_refl _⟩
theorem stepF_all {P : Pred → Prop} {k : Nat} (raw : List Pred) (l : List Int) (a : Nat) (hr : ∀ p ∈ raw, P p) (hp : ∀ j, P (predV l a j [97]).1) (hf : ∀ j, (∀ p ∈ (filterV l a j).1, P p)) (hk : 5 ≤ k) (L : List (List Pred)) (hL : ∀ f ∈ L, (∀ p ∈ f, P p) ∧ f.length ≤ k) (j : Nat) :
    (∀ p ∈ (stepF raw l a L j).1, P p) ∧ (stepF raw l a L j).1.length ≤ k := by
  have hf1 := (filterV_ffv l a j).2
  have hff := hf j
  unfold stepF
  simp only
  split
  · refine ⟨fun p h => hr p (List.mem_of_mem_take h), ?_⟩
    simp; omega
  · generalize filterV l a j = F at *
    obtain ⟨f, J, D⟩ := F
    simp only at *
    unfold halfF
    split
    · exact ⟨hff, by simp only; omega⟩
    · rename_i hne
      split
      · have hpos : 0 < L.length := List.length_pos_iff.2 hne
        have hb := fd_bound l a (J + 1) (n := (L.length : Int)) (by omega)
        have hi : (fd l a (J + 1) L.length).toNat < L.length := by omega
        rw [List.getD_eq_getElem?_getD, List.getElem?_eq_getElem hi]
        simp only [Option.getD_some]
        obtain ⟨h1, h2⟩ := hL _ (List.getElem_mem hi)
        obtain ⟨h3, h4⟩ := turnF_all l a hp _ h1 (J + 2)
        exact ⟨h3, by omega⟩
      · exact ⟨hff, by simp only; omega⟩
theorem filtersG_all {P : Pred → Prop} {k : Nat} (raw : List Pred) (l : List Int) (a : Nat) (hr : ∀ p ∈ raw, P p) (hp : ∀ j, P (predV l a j [97]).1) (hf : ∀ j, (∀ p ∈ (filterV l a j).1, P p)) (hk : 5 ≤ k) : ∀ (n : Nat) (L : List (List Pred)) (j d : Nat), (∀ f ∈ L, (∀ p ∈ f, P p) ∧ f.length ≤ k) →
    ∀ f ∈ (filtersG raw l a n L j d).1, (∀ p ∈ f, P p) ∧ f.length ≤ k
  | 0, L, _, _, h => h
  | n + 1, L, j, d, h => by
    simp only [filtersG]
    refine filtersG_all raw l a hr hp hf hk n _ _ _ fun f hf' => ?_
    rcases List.mem_append.1 hf' with h' | h'
    · exact h f h'
    · simp at h'; subst h'
      exact stepF_all raw l a hr hp hf hk L h j
theorem filtersV_all {P : Pred → Prop} (raw : List Pred) (l : List Int) (a : Nat) (hr : ∀ p ∈ raw, P p) (hp : ∀ j, P (predV l a j [97]).1) (hf : ∀ j, (∀ p ∈ (filterV l a j).1, P p)) (j : Nat) (n : Int) :
    ∀ f ∈ (filtersV raw l a j n).1, (∀ p ∈ f, P p) ∧ f.length ≤ 5 := filtersG_all raw l a hr hp hf (Nat.le_refl _) _ _ _ _ (by simp)
end Go.Ab
namespace Go.Proofs.Ytclpbfkbpcjejaa
open Go Go.Ab
set_option linter.unusedVariables false
set_option linter.unusedSimpArgs false
set_option linter.unnecessarySimpa false
set_option maxRecDepth 20000
noncomputable section
variable (fr : Fr) (st : St) (k : Kt)
def fi51 : FI := { body := codeOf Try.f51, ntmps := 25, results := [.tmp 2], pers := [0, 2, 3, 4, 5], locals := [5], pure := false, marks := [23] }
theorem fi51_eq : gS.fn 51 = some fi51 := by kernel_rfl
theorem st51 (a0 : V) : startFr fi51 [a0] = { ps := [(0, .val a0), (2, .any), (3, .any), (4, .any), (5, .any)], ts := [], lc := [] } := rfl
def b51 : Code := mini (codeOf Try.f51)
def c51_12 : Code := .cond (.tmp 9) .skip (.exit 0)
def c51_10 : Code := .seq (codeN b51 267) c51_12
def c51_21 : Code := codeN b51 3659
def c51_19 : Code := .seq (codeN b51 2635) c51_21
def c51_17 : Code := .seq (codeN b51 1099) c51_19
def c51_22 : Code := codeN b51 459
def c51_15 : Code := .seq (.block 1 c51_17) c51_22
def c51_9 : Code := .seq c51_10 c51_15
def c51_8 : Code := .loop c51_9
def c51_7 : Code := .block 0 c51_8
def c51_5 : Code := .seq (codeN b51 19) c51_7
def c51_23 : Code := .seq (codeN b51 23) .ret
def c51_4 : Code := .seq c51_5 c51_23
def c51_2 : Code := .seq (codeN b51 5) c51_4
def c51_0 : Code := .seq (codeN b51 2) c51_2
theorem E51 : evK gS fi51 c51_12 fr st k = condK gS fi51 (fr.op (.tmp 9)).bool? .skip (.exit 0) fr st k ∧
 (evK gS fi51 c51_10 fr st k = opsR gS fi51 [mv 6 4 3,
 mv 7 0 49,
 len1 8 7 49 3,
 bop 9 .lss 3 6 8 3 4] fr st (.seq c51_12 k)) ∧
 (evK gS fi51 c51_21 fr st k = opsR gS fi51 [mv 20 3 49,
 ld 21 27 5 27,
 op1 22 (.buildSlice 49 1 #[(0, (.tmp 21))]) 49,
 op1 23 (.call { callee := (.builtin .append), args := #[(.tmp 20), (.tmp 22)], argTypes := #[49, 49] }) 49,
 asn 3 23 49] fr st k) ∧
 (evK gS fi51 c51_19 fr st k = opsR gS fi51 [op1 16 (.fieldAddr 27 (.tmp 5) 4) 0,
 ld 17 25 16 25,
 op1 18 (.call { callee := (.builtin .append), args := #[(.const (.slice none 0 0)), (.tmp 17)], argTypes := #[25, 25] }) 25,
 op1 19 (.fieldAddr 27 (.tmp 5) 4) 0,
 sto 25 19 18] fr st (.seq c51_21 k)) ∧
 (evK gS fi51 c51_17 fr st k = opsR gS fi51 [mv 12 0 49,
 mv 13 4 3,
 ixa 14 49 12 13 0,
 ld 15 27 14 27,
 op1 5 (.alloc 27) 0,
 sto 27 5 15] fr st (.seq c51_19 k)) ∧
 (evK gS fi51 c51_22 fr st k = opsR gS fi51 [mv 10 4 3,
 op1 11 (.binOp .add 3 (.tmp 10) (.const (.int .i64 1)) 3) 3,
 asn 4 11 3] fr st k) ∧
 evK gS fi51 c51_15 fr st k = evK gS fi51 c51_17 fr st (.blk 1 (.seq c51_22 k)) ∧
 evK gS fi51 c51_9 fr st k = evK gS fi51 c51_10 fr st (.seq c51_15 k) ∧
 evK gS fi51 c51_7 fr st k = evK gS fi51 c51_8 fr st (.blk 0 k) ∧
 evK gS fi51 c51_5 fr st k = opsR gS fi51 [op1 4 (.assign (.const (.int .i64 0))) 3] fr st (.seq c51_7 k) ∧
 (evK gS fi51 c51_23 fr st k = opsR gS fi51 [mv 24 3 49,
 asn 2 24 49] fr st (.seq .ret k)) ∧
 evK gS fi51 c51_4 fr st k = evK gS fi51 c51_5 fr st (.seq c51_23 k) ∧
 evK gS fi51 c51_2 fr st k = opsR gS fi51 [op1 3 (.assign (.const (.slice none 0 0))) 49] fr st (.seq c51_4 k) ∧
 evK gS fi51 c51_0 fr st k = opsR gS fi51 [op1 2 (.assign (.const (.slice none 0 0))) 49] fr st (.seq c51_2 k) := ⟨rfl, evK_rs 3 rfl (by kernel_rfl), evK_r 7 (by kernel_rfl), evK_rs 6 rfl (by kernel_rfl), evK_rs 5 rfl (by kernel_rfl), evK_r 4 (by kernel_rfl), rfl, rfl, rfl, evK_rs 2 rfl (by kernel_rfl), evK_rs 8 rfl (by kernel_rfl), rfl, evK_rs 1 rfl (by kernel_rfl), evK_rs 0 rfl (by kernel_rfl)⟩
theorem m51 : mini fi51.body = c51_0 := by kernel_rfl
theorem n51_8 (fr : Fr) (st : St) (k : Kt) : nextK gS fi51 (.loop c51_9 k) .normal fr st = evK gS fi51 c51_8 fr st k := rfl
/-- How a copy is handed out, and the state then. -/
def copV (L : Nat) (f : List Pred) : V := if f = [] then .slice [] else .sref false 13 (L + (f.length - 1)) 0 f.length
def copK (f : List Pred) : Option Nat := if f = [] then some 0 else none
def copS (st : St) (f : List Pred) : St := if f = [] then st else nw st (f.length - 1) (f.flatMap Pred.cells)
set_option maxHeartbeats 8000000 in
theorem L51 (f : List Pred) (h_f : PSm f) (st : St) (hst : st.wp ≤ st.objs.length) : ∀ (n i : Nat) (e5 : E) (T : List (Nat × E)) (X : List (Nat × List V)) (ht5 : e5.Tame), i < f.length → f.length - i = n + 1 →
    evK gS fi51 c51_8 { ps := [(0, .val (.slice (encPreds f))), (2, .own 0 []), (3, .val (.sref false 13 (st.objs.length + i) 0 (i + 1))), (4, .val (.int .i64 ((i + 1 : Nat) : Int))), (5, e5)], ts := T, lc := X } (nw st i ((f.take (i + 1)).flatMap Pred.cells)) (.blk 0 (.seq c51_23 .nil)) = some (.ret (.sref false 13 (st.objs.length + (f.length - 1)) 0 f.length) none, nw st (f.length - 1) (f.flatMap Pred.cells)) := by
  intro n
  have hm : fi51.marks = [23] := rfl
  have hl : fi51.locals = [5] := rfl
  have hr : fi51.results = [.tmp 2] := rfl
  have hfl := h_f.1
  induction n with
  | zero =>
    intro i e5 T X ht5 hi hn
    obtain hie : i + 1 = f.length := by omega
    have hie2 : f.length - 1 = i := by omega
    refine evK_loop c51_9 _ _ _ _ rfl ?_
    rw [hie2, ← hie, List.take_of_length_le (by omega)]
    have hlt : ¬ (((i + 1 : Nat) : Int) < (f.length : Int)) := by omega
    simp [-Int.natCast_add, -St.obj, -St.set, hlt, ht5, -Int.not_le, -Int.not_lt, -Nat.not_le, -Nat.not_lt, ty3, ty4, ty25, ty27, ty49, hm, hl, hr, E51, n51_8]
  | succ n ih =>
    intro i e5 T X ht5 hi hn
    obtain ⟨x, hx⟩ : ∃ x, f[i + 1]? = some x := ⟨f[i + 1]'(by omega), List.getElem?_eq_getElem (by omega)⟩
    have hlt : ((i + 1 : Nat) : Int) < (f.length : Int) := by omega
    have hlt2 : i + 1 < f.length := by omega
    have hxe : f[i + 1]'hlt2 = x := by rw [List.getElem?_eq_getElem hlt2] at hx; exact Option.some.inj hx
    have hw : IntKind.wrap .i64 (((i + 1 : Nat) : Int) + 1) = ((i + 1 + 1 : Nat) : Int) := by rw [wrap64 (by omega) (by omega)]; omega
    have hxs := (h_f.2 x (List.mem_of_getElem? hx)).2
    have hxs2 : x.set.length ≤ 140737488355328 := by omega
    have htk : f.take (i + 1 + 1) = f.take (i + 1) ++ [x] := by rw [List.take_succ_eq_append_getElem hlt2, hxe]
    have IH := fun e5 T X ht5 => ih (i + 1) e5 T X ht5 (by omega) (by omega)
    have hfm : (f.take (i + 1) ++ [x]).flatMap Pred.cells = (f.take (i + 1)).flatMap Pred.cells ++ [.str x.name, .int .i64 x.test, .int .i64 x.v.kind, .int .i64 x.v.n, .float .f64 x.v.x, .str x.v.s, .bool x.v.b, .int .i64 x.w.kind, .int .i64 x.w.n, .float .f64 x.w.x, .str x.w.s, .bool x.w.b, .slice (encVals x.set)] := by
      rw [List.flatMap_append, List.flatMap_cons, List.flatMap_nil, List.append_nil]; rfl
    rw [htk, hfm] at IH
    have hsv := sizes_vals x.set
    have hln : (f.take (i + 1)).length = i + 1 := by simp; omega
    have hcl := row_len Pred.cells 13 pcells_len (f.take (i + 1))
    rw [hln] at hcl
    have hstp := row_strip Pred.cells Pred.cells pcells_strip (f.take (i + 1))
    have hon := row_one Pred.cells pcells_one (f.take (i + 1))
    have b1 : (i + 1 + 1) * 144 ≤ 140737488355328 := by omega
    have b2 : i + 1 + 1 ≤ 140737488355328 := by omega
    generalize (f.take (i + 1)).flatMap Pred.cells = C at *
    have ho := nw_obj st i C
    have hk := nw_kill hst i C
    have hnr := fun fr k len cs => newRef_dd' st fr (i + 1) k len cs
    refine evK_loop c51_9 _ _ _ _ rfl ?_
    simp [-Int.natCast_add, -St.obj, -St.set, ht5, hx, hxe, hlt, hlt2, hw, hxs, hxs2, hsv, hcl, hstp, hon, ho, hk, hnr, b1, b2, IH, markStep, markAppend, elemsAt, -Int.not_le, -Int.not_lt, -Nat.not_le, -Nat.not_lt, ty3, ty4, ty25, ty27, ty49, hm, hl, hr, E51, n51_8]
set_option maxHeartbeats 8000000 in
theorem c51 (f : List Pred) (h_f : PSm f) (st : St) (hst : st.wp ≤ st.objs.length) : EvF gS 51 [.slice (encPreds f)] st = some (.ret (copV st.objs.length f) (copK f), copS st f) := by
  refine EvF_start fi51_eq (fun x h => by cases h) m51 ?_
  rw [st51]
  have hm : fi51.marks = [23] := rfl
  have hl : fi51.locals = [5] := rfl
  have hr : fi51.results = [.tmp 2] := rfl
  have hfl := h_f.1
  unfold copV copK copS
  cases f with
  | nil =>
    simp [show encPreds [] = [] from rfl, -Int.not_le, -Int.not_lt, -Nat.not_le, -Nat.not_lt, ty3, ty4, ty25, ty27, ty49, hm, hl, hr, E51, n51_8]
    refine evK_loop c51_9 _ _ _ _ rfl ?_
    simp [show encPreds [] = [] from rfl, -Int.not_le, -Int.not_lt, -Nat.not_le, -Nat.not_lt, ty3, ty4, ty25, ty27, ty49, hm, hl, hr, E51, n51_8]
  | cons x r =>
    rw [if_neg (by simp), if_neg (by simp), if_neg (by simp)]
    have L0 := fun e5 T X ht5 => L51 (x :: r) h_f st hst r.length 0 e5 T X ht5 (by simp) (by simp)
    have hxs := (h_f.2 x (by simp)).2
    have hxs2 : x.set.length ≤ 140737488355328 := by omega
    have hsv := sizes_vals x.set
    have hc1 : ((x :: r).take (0 + 1)).flatMap Pred.cells = [.str x.name, .int .i64 x.test, .int .i64 x.v.kind, .int .i64 x.v.n, .float .f64 x.v.x, .str x.v.s, .bool x.v.b, .int .i64 x.w.kind, .int .i64 x.w.n, .float .f64 x.w.x, .str x.w.s, .bool x.w.b, .slice (encVals x.set)] := by simp [Pred.cells]
    rw [hc1] at L0
    generalize hR : (Out.ret (V.sref false 13 (st.objs.length + ((x :: r).length - 1)) 0 (x :: r).length) none, nw st ((x :: r).length - 1) ((x :: r).flatMap Pred.cells)) = R at L0 ⊢
    clear hR
    have hnr := fun fr k len cs => newRef_0 st fr k len cs
    have hx : (x :: r)[0]? = some x := rfl
    generalize x :: r = f at *
    obtain ⟨hlt2, hxe⟩ := List.getElem?_eq_some_iff.1 hx
    have hlt : (0 : Int) < (f.length : Int) := by omega
    have hw : IntKind.wrap .i64 (0 + 1) = 1 := by kernel_rfl
    simp [-St.obj, -St.set, -Int.not_le, -Int.not_lt, -Nat.not_le, -Nat.not_lt, ty3, ty4, ty25, ty27, ty49, hm, hl, hr, E51, n51_8]
    refine evK_loop c51_9 _ _ _ _ rfl ?_
    simp [-Int.natCast_add, -St.obj, -St.set, hx, hxe, hlt, hlt2, hw, hxs, hxs2, hsv, hnr, markStep, markAppend, elemsAt, w64_1, -Int.not_le, -Int.not_lt, -Nat.not_le, -Nat.not_lt, ty3, ty4, ty25, ty27, ty49, hm, hl, hr, E51, n51_8]
    refine L0 _ _ _ ?_
    simp
theorem k51 (f : List Pred) (h_f : PSm f) (fr : Fr) (st : St) (hst : st.wp ≤ st.objs.length) : callStep gS (EvF gS) 51 [.slice (encPreds f)] fr st = some (.ok (retE (copK f) (copV st.objs.length f)) (fr.map E.noMem) (copS st f)) := by
  unfold callStep
  simp only [show gS.ext 51 = none from rfl, fi51_eq, show fi51.pure = false from rfl, Bool.false_eq_true, if_false, c51 f h_f st hst]
def fi34 : FI := { body := codeOf Try.f34, ntmps := 67, results := [.tmp 6], pers := [0, 1, 2, 6, 7, 8, 9, 10], locals := [], pure := false, marks := [3000009] }
theorem fi34_eq : gS.fn 34 = some fi34 := by kernel_rfl
theorem st34 (a0 a1 a2 : V) : startFr fi34 [a0, a1, a2] = { ps := [(0, .val a0), (1, .val a1), (2, .val a2), (6, .any), (7, .any), (8, .any), (9, .any), (10, .any)], ts := [], lc := [] } := rfl
def b34 : Code := mini (codeOf Try.f34)
def c34_12 : Code := .cond (.tmp 16) .skip (.exit 0)
def c34_10 : Code := .seq (codeN b34 267) c34_12
def c34_29 : Code := codeN b34 174667
def c34_28 : Code := .cond (.tmp 44) c34_29 .skip
def c34_26 : Code := .seq (codeN b34 76363) c34_28
def c34_31 : Code := codeN b34 59979
def c34_25 : Code := .seq c34_26 c34_31
def c34_23 : Code := .seq (codeN b34 19019) c34_25
theorem e34_23 : evK gS fi34 c34_23 fr st k = opsR gS fi34 [mv 29 7 51,
 mv 30 0 29,
 mv 31 7 51,
 len1 32 31 51 3,
 cal 33 16 [(.tmp 30), (.tmp 32)] [29, 3] 3,
 ixa 34 51 29 33 0,
 ld 35 49 34 49,
 cal 36 51 [(.tmp 35)] [49] 49,
 asn 10 36 49] fr st (.seq c34_25 k) := evK_rs 7 rfl (by kernel_rfl)
def c34_22 : Code := .cond (.tmp 28) c34_23 .skip
def c34_20 : Code := .seq (codeN b34 4683) c34_22
def c34_37 : Code := codeN b34 22091
def c34_36 : Code := .cond (.tmp 56) c34_37 .skip
def c34_34 : Code := .seq (codeN b34 9803) c34_36
def c34_39 : Code := codeN b34 7755
def c34_33 : Code := .seq c34_34 c34_39
theorem e34_33 : evK gS fi34 c34_33 fr st k = evK gS fi34 c34_34 fr st (.seq c34_39 k) := rfl
def c34_19 : Code := .seq c34_20 c34_33
theorem e34_19 : evK gS fi34 c34_19 fr st k = evK gS fi34 c34_20 fr st (.seq c34_33 k) := rfl
def c34_17 : Code := .seq (codeN b34 1099) c34_19
def c34_40 : Code := codeN b34 459
def c34_15 : Code := .seq (.block 1 c34_17) c34_40
def c34_9 : Code := .seq c34_10 c34_15
def c34_8 : Code := .loop c34_9
def c34_7 : Code := .block 0 c34_8
def c34_5 : Code := .seq (codeN b34 19) c34_7
def c34_41 : Code := .seq (codeN b34 23) .ret
def c34_4 : Code := .seq c34_5 c34_41
def c34_2 : Code := .seq (codeN b34 5) c34_4
def c34_0 : Code := .seq (codeN b34 2) c34_2
theorem E34 : evK gS fi34 c34_12 fr st k = condK gS fi34 (fr.op (.tmp 16)).bool? .skip (.exit 0) fr st k ∧
 (evK gS fi34 c34_10 fr st k = opsR gS fi34 [mv 15 8 3,
 op1 16 (.binOp .gtr 3 (.tmp 15) (.const (.int .i64 0)) 3) 4] fr st (.seq c34_12 k)) ∧
 (evK gS fi34 c34_29 fr st k = opsR gS fi34 [mv 45 10 49,
 mv 46 0 29,
 mv 47 10 49,
 len1 48 47 49 3,
 cal 49 16 [(.tmp 46), (.tmp 48)] [29, 3] 3,
 mv 50 0 29,
 cal 51 29 [(.tmp 50), (.const (.string { data := #[97] }))] [29, 9] 27,
 ixa 52 49 45 49 0,
 sto 27 52 51] fr st k) ∧
 evK gS fi34 c34_28 fr st k = condK gS fi34 (fr.op (.tmp 44)).bool? c34_29 .skip fr st k ∧
 (evK gS fi34 c34_26 fr st k = opsR gS fi34 [mv 37 10 49,
 len1 38 37 49 3,
 op1 39 (.binOp .gtr 3 (.tmp 38) (.const (.int .i64 0)) 3) 4,
 mv 40 39 4,
 mk (some 41) (.move (.tmp 0)) 29 (some (3, true)),
 mk (some 42) (.call { callee := (.value (.func 16)), args := #[(.tmp 41), (.const (.int .i64 2))], argTypes := #[29, 3] }) 3 (some (3, true)),
 mk (some 43) (.binOp .eql 3 (.tmp 42) (.const (.int .i64 0)) 3) 4 (some (3, true)),
 op1 44 (.pick (.tmp 40) (.tmp 43) (.const (.bool false))) 4] fr st (.seq c34_28 k)) ∧
 (evK gS fi34 c34_31 fr st k = opsR gS fi34 [mv 53 10 49,
 asn 9 53 49] fr st k) ∧
 evK gS fi34 c34_25 fr st k = evK gS fi34 c34_26 fr st (.seq c34_31 k) ∧
 evK gS fi34 c34_22 fr st k = condK gS fi34 (fr.op (.tmp 28)).bool? c34_23 .skip fr st k ∧
 (evK gS fi34 c34_20 fr st k = opsR gS fi34 [mv 21 7 51,
 len1 22 21 51 3,
 op1 23 (.binOp .gtr 3 (.tmp 22) (.const (.int .i64 0)) 3) 4,
 mv 24 23 4,
 mk (some 25) (.move (.tmp 0)) 29 (some (3, true)),
 mk (some 26) (.call { callee := (.value (.func 16)), args := #[(.tmp 25), (.const (.int .i64 4))], argTypes := #[29, 3] }) 3 (some (3, true)),
 mk (some 27) (.binOp .eql 3 (.tmp 26) (.const (.int .i64 0)) 3) 4 (some (3, true)),
 op1 28 (.pick (.tmp 24) (.tmp 27) (.const (.bool false))) 4] fr st (.seq c34_22 k)) ∧
 (evK gS fi34 c34_37 fr st k = opsR gS fi34 [mv 57 1 49,
 mv 58 1 49,
 len1 59 58 49 3,
 op1 60 (.call { callee := (.builtin .min), args := #[(.tmp 59), (.const (.int .i64 5))], argTypes := #[3, 3] }) 3,
 op1 61 (.slice 49 (.tmp 57) none (some (.tmp 60)) none) 49,
 asn 9 61 49] fr st k) ∧
 evK gS fi34 c34_36 fr st k = condK gS fi34 (fr.op (.tmp 56)).bool? c34_37 .skip fr st k ∧
 (evK gS fi34 c34_34 fr st k = opsR gS fi34 [mv 54 0 29,
 cal 55 16 [(.tmp 54), (.const (.int .i64 12))] [29, 3] 3,
 op1 56 (.binOp .eql 3 (.tmp 55) (.const (.int .i64 0)) 3) 4] fr st (.seq c34_36 k)) ∧
 (evK gS fi34 c34_39 fr st k = opsR gS fi34 [mv 62 7 51,
 mv 63 9 49,
 op1 64 (.buildSlice 51 1 #[(0, (.tmp 63))]) 51,
 op1 65 (.call { callee := (.builtin .append), args := #[(.tmp 62), (.tmp 64)], argTypes := #[51, 51] }) 51,
 asn 7 65 51] fr st k) ∧
 (evK gS fi34 c34_17 fr st k = opsR gS fi34 [mv 19 0 29,
 cal 20 35 [(.tmp 19)] [29] 49,
 asn 9 20 49] fr st (.seq c34_19 k)) ∧
 (evK gS fi34 c34_40 fr st k = opsR gS fi34 [mv 17 8 3,
 op1 18 (.binOp .sub 3 (.tmp 17) (.const (.int .i64 1)) 3) 3,
 asn 8 18 3] fr st k) ∧
 evK gS fi34 c34_15 fr st k = evK gS fi34 c34_17 fr st (.blk 1 (.seq c34_40 k)) ∧
 evK gS fi34 c34_9 fr st k = evK gS fi34 c34_10 fr st (.seq c34_15 k) ∧
 evK gS fi34 c34_7 fr st k = evK gS fi34 c34_8 fr st (.blk 0 k) ∧
 (evK gS fi34 c34_5 fr st k = opsR gS fi34 [mv 11 0 29,
 mv 12 2 3,
 op1 13 (.binOp .add 3 (.tmp 12) (.const (.int .i64 1)) 3) 3,
 cal 14 16 [(.tmp 11), (.tmp 13)] [29, 3] 3,
 asn 8 14 3] fr st (.seq c34_7 k)) ∧
 (evK gS fi34 c34_41 fr st k = opsR gS fi34 [mv 66 7 51,
 asn 6 66 51] fr st (.seq .ret k)) ∧
 evK gS fi34 c34_4 fr st k = evK gS fi34 c34_5 fr st (.seq c34_41 k) ∧
 evK gS fi34 c34_2 fr st k = opsR gS fi34 [op1 7 (.assign (.const (.slice none 0 0))) 51] fr st (.seq c34_4 k) ∧
 evK gS fi34 c34_0 fr st k = opsR gS fi34 [op1 6 (.assign (.const (.slice none 0 0))) 51] fr st (.seq c34_2 k) := ⟨rfl, evK_rs 3 rfl (by kernel_rfl), evK_r 9 (by kernel_rfl), rfl, evK_rs 8 rfl (by kernel_rfl), evK_r 10 (by kernel_rfl), rfl, rfl, evK_rs 6 rfl (by kernel_rfl), evK_r 12 (by kernel_rfl), rfl, evK_rs 11 rfl (by kernel_rfl), evK_r 13 (by kernel_rfl), evK_rs 5 rfl (by kernel_rfl), evK_r 4 (by kernel_rfl), rfl, rfl, rfl, evK_rs 2 rfl (by kernel_rfl), evK_rs 14 rfl (by kernel_rfl), rfl, evK_rs 1 rfl (by kernel_rfl), evK_rs 0 rfl (by kernel_rfl)⟩
theorem m34 : mini fi34.body = c34_0 := by kernel_rfl
theorem n34_8 (fr : Fr) (st : St) (k : Kt) : nextK gS fi34 (.loop c34_9 k) .normal fr st = evK gS fi34 c34_8 fr st k := rfl
/-- Of one test. -/
def QSm (p : Pred) : Prop := p.name.length < 4611686018427387904 ∧ p.set.length * 48 ≤ 140737488355328
theorem psm_of {f : List Pred} (h : (∀ p ∈ f, QSm p) ∧ f.length ≤ 5) : PSm f := ⟨by omega, h.1⟩
theorem qsm_right {p : Pred} (hr : pright p = true) : QSm p := by
  refine ⟨(ok_of_right hr).1, ?_⟩
  unfold pright at hr
  split at hr
  · repeat' split at hr
    all_goals first
      | (simp only [Bool.and_eq_true, decide_eq_true_eq] at hr; omega)
      | cases hr
  · cases hr
theorem predV_qsm (l : List Int) (a j : Nat) : QSm (predV l a j [97]).1 := qsm_right (pred_right l a j rfl)
theorem filterV_qsm (l : List Int) (a j : Nat) : ∀ p ∈ (filterV l a j).1, QSm p := fun p hp => qsm_right ((filterV_ffv l a j).1.right p hp)
set_option maxHeartbeats 8000000 in
theorem T34_33 (raw : List Pred) (hraw : raw.length < 4611686018427387904) (l : List Int) (a id : Nat) (ha : a < 549755813888) (S : St) (h : FeedOk S id) (j : Nat) (hj : j < 549755812000) (L : List (List Pred)) (hL : L.length < 1000) (kl : Nat) (hkl : kl = 0 ∧ L = [] ∨ kl = 1) (r : Nat) (hr : r < 1000) (x : List Pred) (R : Out × St) (e2 e10 : E) (h2 : e2.Tame) (h10 : e10.Firm) (T : List (Nat × E)) (X : List (Nat × List V))
    (H : ∀ e9 T (h9 : e9.Tame), evK gS fi34 c34_8 { ps := [(0, .val (.ptr id 0)), (1, .val (.slice (encPreds raw))), (2, e2), (6, .own 0 []), (7, .own 1 (encPredss (L ++ [if fd l a j 12 = 0 then raw.take 5 else x]))), (8, .val (.int .i64 (r : Int))), (9, e9), (10, e10)], ts := T, lc := X } (setF S id l (nA l a (j + 1))) (.blk 0 (.seq c34_41 .nil)) = some R) :
    evK gS fi34 c34_33 { ps := [(0, .val (.ptr id 0)), (1, .val (.slice (encPreds raw))), (2, e2), (6, .own 0 []), (7, .own kl (encPredss L)), (8, .val (.int .i64 ((r + 1 : Nat) : Int))), (9, .val (.slice (encPreds x))), (10, e10)], ts := T, lc := X } (setF S id l (nA l a j)) (.blk 1 (.seq c34_40 (.loop c34_9 (.blk 0 (.seq c34_41 .nil))))) = some R := by
  have hm : fi34.marks = [3000009] := rfl
  have hl : fi34.locals = [] := rfl
  have hr : fi34.results = [.tmp 6] := rfl
  have hk := fun fr => k16 l a j id 12 fr S h ha (by omega) (by omega)
  have hw2 : IntKind.wrap .i64 (((r + 1 : Nat) : Int) - 1) = (r : Int) := by rw [wrap64 (by omega) (by omega)]; omega
  have hs1 := sizes_predss L
  have hs2 := fun x => predss_snoc L x
  have hl1 : (L.length + 1) * 24 ≤ 140737488355328 := by omega
  have hl2 : L.length + 1 ≤ 140737488355328 := by omega
  have hfr : ∀ st (f : List Pred), frz 6 st (.slice (encPreds f)) = some (.slice (encPreds f), st) := fun st f => frz_flat 6 st _ (by simp [V.flat])
  have htk : (encPreds raw).take 5 = encPreds (raw.take 5) := by simp [encPreds]
  have hsr := sizes_preds raw
  by_cases hc : fd l a j 12 = 0
  · rw [if_pos hc] at H
    by_cases h5 : 5 < raw.length
    · have hge : (5 : Int) ≤ (raw.length : Int) := by omega
      rcases hkl with ⟨rfl, rfl⟩ | rfl
      · have en : encPredss [] = [] := rfl
        rw [show encPredss ([] ++ [raw.take 5]) = [.slice (encPreds (raw.take 5))] from rfl] at H
        simp [-Int.natCast_add, -St.obj, -St.set, h5, hge, en, h2, h10, hk, hc, hw2, hfr, htk, hsr, hraw, -Int.not_le, -Int.not_lt, -Nat.not_le, -Nat.not_lt, ty3, ty4, ty9, ty27, ty29, ty49, ty51, hm, hl, hr, E34, e34_23, e34_33, e34_19, n34_8]
        exact H _ _ (tame_val _)
      · simp [-List.append_assoc, -Int.natCast_add, -St.obj, -St.set, h5, hge, h2, h10, hk, hc, hw2, hfr, htk, hsr, hs1, hs2, hl1, hl2, hraw, -Int.not_le, -Int.not_lt, -Nat.not_le, -Nat.not_lt, ty3, ty4, ty9, ty27, ty29, ty49, ty51, hm, hl, hr, E34, e34_23, e34_33, e34_19, n34_8]
        exact H _ _ (tame_val _)
    · have htk2 : (encPreds raw).take raw.length = encPreds (raw.take 5) := by
        rw [List.take_of_length_le (l := raw) (by omega), List.take_of_length_le (by simp)]
      rcases hkl with ⟨rfl, rfl⟩ | rfl
      · have en : encPredss [] = [] := rfl
        rw [show encPredss ([] ++ [raw.take 5]) = [.slice (encPreds (raw.take 5))] from rfl] at H
        simp [-Int.natCast_add, -St.obj, -St.set, h5, en, h2, h10, hk, hc, hw2, hfr, htk2, hsr, hraw, -Int.not_le, -Int.not_lt, -Nat.not_le, -Nat.not_lt, ty3, ty4, ty9, ty27, ty29, ty49, ty51, hm, hl, hr, E34, e34_23, e34_33, e34_19, n34_8]
        exact H _ _ (tame_val _)
      · simp [-List.append_assoc, -Int.natCast_add, -St.obj, -St.set, h5, h2, h10, hk, hc, hw2, hfr, htk2, hsr, hs1, hs2, hl1, hl2, hraw, -Int.not_le, -Int.not_lt, -Nat.not_le, -Nat.not_lt, ty3, ty4, ty9, ty27, ty29, ty49, ty51, hm, hl, hr, E34, e34_23, e34_33, e34_19, n34_8]
        exact H _ _ (tame_val _)
  · rw [if_neg hc] at H
    rcases hkl with ⟨rfl, rfl⟩ | rfl
    · have en : encPredss [] = [] := rfl
      rw [show encPredss ([] ++ [x]) = [.slice (encPreds x)] from rfl] at H
      simp [-Int.natCast_add, -St.obj, -St.set, en, h2, h10, hk, hc, hw2, -Int.not_le, -Int.not_lt, -Nat.not_le, -Nat.not_lt, ty3, ty4, ty9, ty27, ty29, ty49, ty51, hm, hl, hr, E34, e34_23, e34_33, e34_19, n34_8]
      exact H _ _ (tame_val _)
    · simp [-List.append_assoc, -Int.natCast_add, -St.obj, -St.set, h2, h10, hk, hc, hw2, hs1, hs2, hl1, hl2, -Int.not_le, -Int.not_lt, -Nat.not_le, -Nat.not_lt, ty3, ty4, ty9, ty27, ty29, ty49, ty51, hm, hl, hr, E34, e34_23, e34_33, e34_19, n34_8]
      exact H _ _ (tame_val _)
set_option maxHeartbeats 8000000 in
theorem T34_23 (raw : List Pred) (l : List Int) (a id : Nat) (ha : a < 549755813888) (st : St) (h : FeedOk st id) (j m : Nat) (hj : j < 549755810000) (L : List (List Pred)) (hL : L.length < 1000) (y : List Pred) (hy : L[(fd l a j L.length).toNat]? = some y) (hps : PSm y) (kl : Nat) (r : Nat) (R : Out × St) (e2 e9 e10 : E) (h2 : e2.Tame) (h9 : e9.Tame) (h10 : e10.Firm) (T : List (Nat × E)) (X : List (Nat × List V))
    (H : ∀ e10 T (h10 : e10.Firm), evK gS fi34 c34_33 { ps := [(0, .val (.ptr id 0)), (1, .val (.slice (encPreds raw))), (2, e2), (6, .own 0 []), (7, .own kl (encPredss L)), (8, .val (.int .i64 ((r + 1 : Nat) : Int))), (9, .val (.slice (encPreds (turnF l a y (j + 1)).1))), (10, e10)], ts := T, lc := X } (setF (dd st (m + (turnF l a y (j + 1)).2.2)) id l (nA l a (turnF l a y (j + 1)).2.1)) (.blk 1 (.seq c34_40 (.loop c34_9 (.blk 0 (.seq c34_41 .nil))))) = some R) :
    evK gS fi34 c34_23 { ps := [(0, .val (.ptr id 0)), (1, .val (.slice (encPreds raw))), (2, e2), (6, .own 0 []), (7, .own kl (encPredss L)), (8, .val (.int .i64 ((r + 1 : Nat) : Int))), (9, e9), (10, e10)], ts := T, lc := X } (setF (dd st m) id l (nA l a j)) (.seq c34_33 (.blk 1 (.seq c34_40 (.loop c34_9 (.blk 0 (.seq c34_41 .nil)))))) = some R := by
  have hm : fi34.marks = [3000009] := rfl
  have hl : fi34.locals = [] := rfl
  have hr : fi34.results = [.tmp 6] := rfl
  obtain ⟨hlt2, hye⟩ := List.getElem?_eq_some_iff.1 hy
  have hpos : 0 < L.length := by omega
  have hb := fd_bound l a j (n := (L.length : Int)) (by omega)
  have hk1 := fun fr => k16 l a j id L.length fr (dd st m) (h.dd m) ha (by omega) (by omega)
  obtain ⟨i, hi⟩ : ∃ i : Nat, fd l a j L.length = (i : Int) := ⟨(fd l a j L.length).toNat, by omega⟩
  rw [hi, Int.toNat_natCast] at hy
  rw [hi] at hb hk1
  have hlt3 : i < L.length := by omega
  have hye2 : L[i]'hlt3 = y := (List.getElem?_eq_some_iff.1 hy).2
  have hwp : (setF (dd st m) id l (nA l a (j + 1))).wp ≤ (setF (dd st m) id l (nA l a (j + 1))).objs.length := by
    rw [setF_wp, setF_len, dd_wp, dd_len]; have := h.1; have := h.2; omega
  have hk2 := fun fr => k51 y hps fr (setF (dd st m) id l (nA l a (j + 1))) hwp
  by_cases hyn : y = []
  · subst hyn
    have e1 : turnF l a [] (j + 1) = ([], j + 1, 0) := by unfold turnF; rw [if_pos rfl]
    rw [e1] at H
    simp only [copV, copK, copS, if_true] at hk2
    rw [show encPreds [] = [] from rfl] at H hk2
    have hey : encPreds [] = [] := rfl
    simp [-Int.natCast_add, -St.obj, -St.set, h2, h9, h10, hk1, hk2, hy, hye2, hlt3, hb, hey, -Int.not_le, -Int.not_lt, -Nat.not_le, -Nat.not_lt, ty3, ty4, ty9, ty27, ty29, ty49, ty51, hm, hl, hr, E34, e34_23, e34_19, n34_8]
    exact H _ _ (firm_own _ _)
  · have hn1 : 0 < y.length := List.length_pos_iff.2 hyn
    have e2 : copS (setF (dd st m) id l (nA l a (j + 1))) y = setF (nw st (m + (y.length - 1)) (y.flatMap Pred.cells)) id l (nA l a (j + 1)) := by
      unfold copS; rw [if_neg hyn, setF_gr (h.dd m), nw_dd]
    have e3 : copV (setF (dd st m) id l (nA l a (j + 1))).objs.length y = .sref false 13 (st.objs.length + (m + (y.length - 1))) 0 y.length := by
      unfold copV; rw [if_neg hyn, setF_len, dd_len, Nat.add_assoc]
    have e4 : copK y = none := by unfold copK; rw [if_neg hyn]
    rw [e2, e3, e4] at hk2
    simp only [retE] at hk2
    have hyl := hps.1
    generalize hq : m + (y.length - 1) = q at *
    have hk3 := fun fr => k16 l a (j + 1) id 2 fr (nw st q (y.flatMap Pred.cells)) (h.nw q _) ha (by omega) (by omega)
    have hgt : (0 : Int) < (y.length : Int) := by omega
    by_cases hc : fd l a (j + 1) 2 = 0
    · have e5 : turnF l a y (j + 1) = (y.take (fd l a (j + 2) y.length).toNat ++ [(predV l a (j + 3) [97]).1] ++ y.drop ((fd l a (j + 2) y.length).toNat + 1), j + 3 + (predV l a (j + 3) [97]).2, y.length + (predV l a (j + 3) [97]).1.set.length) := by
        unfold turnF; rw [if_neg hyn, if_pos hc]
      rw [e5] at H
      have hk4 := fun fr => k16 l a (j + 2) id y.length fr (nw st q (y.flatMap Pred.cells)) (h.nw q _) ha (by omega) (by omega)
      have hb2 := fd_bound l a (j + 2) (n := (y.length : Int)) (by omega)
      obtain ⟨i2, hi2⟩ : ∃ i : Nat, fd l a (j + 2) y.length = (i : Int) := ⟨(fd l a (j + 2) y.length).toNat, by omega⟩
      rw [hi2] at hb2 hk4 H
      rw [Int.toNat_natCast] at H
      have hk5 := fun fr => k29 l a (j + 3) id [97] fr (nw st q (y.flatMap Pred.cells)) (h.nw q _) ha (by omega)
      have hpa := pred_asks l a (j + 3) [97]
      generalize predV l a (j + 3) [97] = P at *
      obtain ⟨p, cnt⟩ := P
      simp only at hk5 H hpa
      have hob := obj_mid h q p.set.length (y.flatMap Pred.cells) l (nA l a (j + 3 + cnt))
      have hst := fun cs' => set_mid' h q p.set.length (y.flatMap Pred.cells) cs' l (nA l a (j + 3 + cnt))
      have hspl := row_splices Pred.cells 13 pcells_len y [p] i2 (by simp; omega)
      have hpc : [p].flatMap Pred.cells = p.cells := by simp
      rw [List.length_singleton, hpc] at hspl
      simp only [Pred.cells] at hspl
      have hyl2 : (y.take i2 ++ [p] ++ y.drop (i2 + 1)).length = y.length := by simp; omega
      have hne2 : y.take i2 ++ [p] ++ y.drop (i2 + 1) ≠ [] := by simp
      have hz := frz_preds 5 (st.objs.length + q) (y.take i2 ++ [p] ++ y.drop (i2 + 1)) hne2 (obj_mid h q p.set.length _ l (nA l a (j + 3 + cnt))) (set_mid h q p.set.length _ l (nA l a (j + 3 + cnt)))
      rw [hyl2] at hz
      have hdd : q + 1 + p.set.length = m + (y.length + p.set.length) := by omega
      rw [hdd] at hz
      generalize y.take i2 ++ [p] ++ y.drop (i2 + 1) = y2 at *
      have c1 : (i2 : Int) < (y.length : Int) := by omega
      have c2 : i2 < y.length := by omega
      simp [-Int.natCast_add, -St.obj, -St.set, -splice, -List.flatMap_append, h2, h9, h10, hk1, hk2, hk3, hk4, hk5, hy, hye2, hlt3, hb, hgt, hc, hn1, hob, hst, hspl, hz, c1, c2, -Int.not_le, -Int.not_lt, -Nat.not_le, -Nat.not_lt, ty3, ty4, ty9, ty27, ty29, ty49, ty51, hm, hl, hr, E34, e34_23, e34_19, n34_8]
      exact H _ _ (firm_val _)
    · have e5 : turnF l a y (j + 1) = (y, j + 2, y.length) := by unfold turnF; rw [if_neg hyn, if_neg hc]
      rw [e5] at H
      have hz := frz_preds 5 (st.objs.length + q) y hyn (obj_gr h q _ l (nA l a (j + 2))) (set_gr h q _ l (nA l a (j + 2)))
      have hdd : q + 1 = m + y.length := by omega
      rw [hdd] at hz
      simp [-Int.natCast_add, -St.obj, -St.set, h2, h9, h10, hk1, hk2, hk3, hy, hye2, hlt3, hb, hgt, hc, hn1, hz, -Int.not_le, -Int.not_lt, -Nat.not_le, -Nat.not_lt, ty3, ty4, ty9, ty27, ty29, ty49, ty51, hm, hl, hr, E34, e34_23, e34_19, n34_8]
      exact H _ _ (firm_val _)
set_option maxHeartbeats 8000000 in
theorem T34_19 (raw : List Pred) (l : List Int) (a id : Nat) (ha : a < 549755813888) (st : St) (h : FeedOk st id) (j m : Nat) (hj : j < 549755809000) (L : List (List Pred)) (hL : L.length < 1000) (hps : ∀ f ∈ L, PSm f) (f : List Pred) (kl : Nat) (r : Nat) (R : Out × St) (e2 e10 : E) (h2 : e2.Tame) (h10 : e10.Firm) (T : List (Nat × E)) (X : List (Nat × List V))
    (H : ∀ e10 T (h10 : e10.Firm), evK gS fi34 c34_33 { ps := [(0, .val (.ptr id 0)), (1, .val (.slice (encPreds raw))), (2, e2), (6, .own 0 []), (7, .own kl (encPredss L)), (8, .val (.int .i64 ((r + 1 : Nat) : Int))), (9, .val (.slice (encPreds (halfF l a L f j).1))), (10, e10)], ts := T, lc := X } (setF (dd st (m + (halfF l a L f j).2.2)) id l (nA l a (halfF l a L f j).2.1)) (.blk 1 (.seq c34_40 (.loop c34_9 (.blk 0 (.seq c34_41 .nil))))) = some R) :
    evK gS fi34 c34_19 { ps := [(0, .val (.ptr id 0)), (1, .val (.slice (encPreds raw))), (2, e2), (6, .own 0 []), (7, .own kl (encPredss L)), (8, .val (.int .i64 ((r + 1 : Nat) : Int))), (9, .val (.slice (encPreds f))), (10, e10)], ts := T, lc := X } (setF (dd st m) id l (nA l a j)) (.blk 1 (.seq c34_40 (.loop c34_9 (.blk 0 (.seq c34_41 .nil))))) = some R := by
  have hm : fi34.marks = [3000009] := rfl
  have hl : fi34.locals = [] := rfl
  have hr : fi34.results = [.tmp 6] := rfl
  by_cases hLn : L = []
  · subst hLn
    have e1 : halfF l a [] f j = (f, j, 0) := by unfold halfF; rw [if_pos rfl]
    rw [e1] at H
    have en : encPredss [] = [] := rfl
    rw [en] at H ⊢
    simp [-Int.natCast_add, -St.obj, -St.set, h2, h10, -Int.not_le, -Int.not_lt, -Nat.not_le, -Nat.not_lt, ty3, ty4, ty9, ty27, ty29, ty49, ty51, hm, hl, hr, E34, e34_19, n34_8]
    exact H _ _ h10
  · have hpos : 0 < L.length := List.length_pos_iff.2 hLn
    have hgt : (0 : Int) < (L.length : Int) := by omega
    have hk1 := fun fr => k16 l a j id 4 fr (dd st m) (h.dd m) ha (by omega) (by omega)
    by_cases hc : fd l a j 4 = 0
    · have e1 : halfF l a L f j = turnF l a (L.getD (fd l a (j + 1) L.length).toNat []) (j + 2) := by unfold halfF; rw [if_neg hLn, if_pos hc]
      rw [e1] at H
      have hb := fd_bound l a (j + 1) (n := (L.length : Int)) (by omega)
      have hi : (fd l a (j + 1) L.length).toNat < L.length := by omega
      rw [List.getD_eq_getElem?_getD, List.getElem?_eq_getElem hi, Option.getD_some] at H
      have TT := fun e9 T h9 => T34_23 raw l a id ha st h (j + 1) m (by omega) L hL _ (List.getElem?_eq_getElem hi) (hps _ (List.getElem_mem hi)) kl r R e2 e9 e10 h2 h9 h10 T X H
      simp [-Int.natCast_add, -St.obj, -St.set, h2, h10, hk1, hgt, hpos, hc, -Int.not_le, -Int.not_lt, -Nat.not_le, -Nat.not_lt, ty3, ty4, ty9, ty27, ty29, ty49, ty51, hm, hl, hr, E34, e34_19, n34_8]
      exact TT _ _ (tame_val _)
    · have e1 : halfF l a L f j = (f, j + 1, 0) := by unfold halfF; rw [if_neg hLn, if_neg hc]
      rw [e1] at H
      simp [-Int.natCast_add, -St.obj, -St.set, h2, h10, hk1, hgt, hpos, hc, -Int.not_le, -Int.not_lt, -Nat.not_le, -Nat.not_lt, ty3, ty4, ty9, ty27, ty29, ty49, ty51, hm, hl, hr, E34, e34_19, n34_8]
      exact H _ _ h10
/-- How much room a row's cells take that was laid one by one. -/
def kof {α : Type} (k : Nat) (l : List α) : Nat := if l = [] then 0 else k
theorem kof_snoc {α : Type} (k : Nat) (l : List α) (x : α) : kof k (l ++ [x]) = k := by unfold kof; rw [if_neg (by simp)]
theorem kof_or {α : Type} (k : Nat) (l : List α) : kof k l = 0 ∧ l = [] ∨ kof k l = k := by
  unfold kof; split
  · exact .inl ⟨rfl, by assumption⟩
  · exact .inr rfl
set_option maxHeartbeats 8000000 in
theorem L34 (raw : List Pred) (hraw : raw.length < 4611686018427387904) (hrq : ∀ p ∈ raw, QSm p) (l : List Int) (a id : Nat) (ha : a < 549755813888) (st : St) (h : FeedOk st id) : ∀ (r j m : Nat) (L : List (List Pred)) (e2 e9 e10 : E) (h2 : e2.Tame) (h9 : e9.Tame) (h10 : e10.Firm) (T : List (Nat × E)) (X : List (Nat × List V)),
    L.length + r < 1000 → (∀ f ∈ L, (∀ p ∈ f, QSm p) ∧ f.length ≤ 5) → j + 49 * r < 549755800000 →
    evK gS fi34 c34_8 { ps := [(0, .val (.ptr id 0)), (1, .val (.slice (encPreds raw))), (2, e2), (6, .own 0 []), (7, .own (kof 1 L) (encPredss L)), (8, .val (.int .i64 (r : Int))), (9, e9), (10, e10)], ts := T, lc := X } (setF (dd st m) id l (nA l a j)) (.blk 0 (.seq c34_41 .nil)) = some (.ret (.slice (encPredss (filtersG raw l a r L j m).1)) (some (kof 1 (filtersG raw l a r L j m).1)), setF (dd st (filtersG raw l a r L j m).2.2) id l (nA l a (filtersG raw l a r L j m).2.1)) := by
  intro r
  have hm : fi34.marks = [3000009] := rfl
  have hl : fi34.locals = [] := rfl
  have hr : fi34.results = [.tmp 6] := rfl
  induction r with
  | zero =>
    intro j m L e2 e9 e10 h2 h9 h10 T X hLr hLq hj
    rw [show filtersG raw l a 0 L j m = (L, j, m) from rfl]
    refine evK_loop c34_9 _ _ _ _ rfl ?_
    rcases kof_or 1 L with ⟨hk0, rfl⟩ | hk0
    · have en : encPredss [] = [] := rfl
      rw [hk0, en]
      simp [-Int.natCast_add, -St.obj, -St.set, h2, h9, h10, -Int.not_le, -Int.not_lt, -Nat.not_le, -Nat.not_lt, ty3, ty4, ty9, ty27, ty29, ty49, ty51, hm, hl, hr, E34, e34_19, n34_8]
    · rw [hk0]
      simp [-Int.natCast_add, -St.obj, -St.set, h2, h9, h10, -Int.not_le, -Int.not_lt, -Nat.not_le, -Nat.not_lt, ty3, ty4, ty9, ty27, ty29, ty49, ty51, hm, hl, hr, E34, e34_19, n34_8]
  | succ r ih =>
    intro j m L e2 e9 e10 h2 h9 h10 T X hLr hLq hj
    have hsa := stepF_asks raw l a L j
    have hsq := stepF_all (P := QSm) (k := 5) raw l a hrq (predV_qsm l a) (filterV_qsm l a) (Nat.le_refl _) L hLq j
    have hg : filtersG raw l a (r + 1) L j m = filtersG raw l a r (L ++ [(stepF raw l a L j).1]) (stepF raw l a L j).2.1 (m + (stepF raw l a L j).2.2) := rfl
    rw [hg]
    have hLq2 : ∀ f ∈ L ++ [(stepF raw l a L j).1], (∀ p ∈ f, QSm p) ∧ f.length ≤ 5 := fun f hf => by
      rcases List.mem_append.1 hf with h' | h'
      · exact hLq f h'
      · simp at h'; subst h'; exact hsq
    have IH2 := fun e9 e10 h9 h10 T => ih (stepF raw l a L j).2.1 (m + (stepF raw l a L j).2.2) (L ++ [(stepF raw l a L j).1]) e2 e9 e10 h2 h9 h10 T X (by simp; omega) hLq2 (by omega)
    rw [kof_snoc] at IH2
    generalize hR : (Out.ret (V.slice (encPredss (filtersG raw l a r (L ++ [(stepF raw l a L j).1]) (stepF raw l a L j).2.1 (m + (stepF raw l a L j).2.2)).1)) (some (kof 1 (filtersG raw l a r (L ++ [(stepF raw l a L j).1]) (stepF raw l a L j).2.1 (m + (stepF raw l a L j).2.2)).1)), setF (dd st (filtersG raw l a r (L ++ [(stepF raw l a L j).1]) (stepF raw l a L j).2.1 (m + (stepF raw l a L j).2.2)).2.2) id l (nA l a (filtersG raw l a r (L ++ [(stepF raw l a L j).1]) (stepF raw l a L j).2.1 (m + (stepF raw l a L j).2.2)).2.1)) = R at IH2 ⊢
    clear hR
    have hk35 := fun fr => k35 l a j id fr (dd st m) (h.dd m) ha (by omega)
    rw [dd_dd] at hk35
    have hfa := filterV_asks l a j
    have hha := halfF_asks l a L (filterV l a j).1 (filterV l a j).2.1
    unfold stepF at IH2
    simp only at IH2
    have T33 := fun e10 h10 T => T34_33 raw hraw l a id ha (dd st (m + ((filterV l a j).2.2 + (halfF l a L (filterV l a j).1 (filterV l a j).2.1).2.2))) (h.dd _) (halfF l a L (filterV l a j).1 (filterV l a j).2.1).2.1 (by omega) L (by omega) (kof 1 L) (kof_or 1 L) r (by omega) (halfF l a L (filterV l a j).1 (filterV l a j).2.1).1 R e2 e10 h2 h10 T X (fun e9 T h9 => IH2 e9 e10 h9 h10 T)
    rw [← Nat.add_assoc] at T33
    have T19 := fun e10 h10 T => T34_19 raw l a id ha st h (filterV l a j).2.1 (m + (filterV l a j).2.2) (by omega) L (by omega) (fun f hf => psm_of (hLq f hf)) (filterV l a j).1 (kof 1 L) r R e2 e10 h2 h10 T X (fun e10 T h10 => T33 e10 h10 T)
    have hpos : (0 : Int) < ((r + 1 : Nat) : Int) := by omega
    have hfr : ∀ st (f : List Pred), frz 6 st (.slice (encPreds f)) = some (.slice (encPreds f), st) := fun st f => frz_flat 6 st _ (by simp [V.flat])
    refine evK_loop c34_9 _ _ _ _ rfl ?_
    simp [-Int.natCast_add, -St.obj, -St.set, h2, h9, h10, hk35, hpos, hfr, -Int.not_le, -Int.not_lt, -Nat.not_le, -Nat.not_lt, ty3, ty4, ty9, ty27, ty29, ty49, ty51, hm, hl, hr, E34, n34_8]
    exact T19 _ h10 _
set_option maxHeartbeats 8000000 in
theorem c34 (raw : List Pred) (hraw : raw.length < 4611686018427387904) (hrq : ∀ p ∈ raw, QSm p) (l : List Int) (a j id : Nat) (n : Int) (hn0 : 0 ≤ n) (hn : n < 900) (st : St) (h : FeedOk st id) (ha : a < 549755813888) (hj : j < 549755700000) :
    EvF gS 34 [.ptr id 0, .slice (encPreds raw), .int .i64 n] (setF st id l (nA l a j)) = some (.ret (.slice (encPredss (filtersV raw l a j n).1)) (some (kof 1 (filtersV raw l a j n).1)), setF (dd st (filtersV raw l a j n).2.2) id l (nA l a (filtersV raw l a j n).2.1)) := by
  refine EvF_start fi34_eq (fun x h => by cases h) m34 ?_
  rw [st34]
  have hm : fi34.marks = [3000009] := rfl
  have hl : fi34.locals = [] := rfl
  have hr : fi34.results = [.tmp 6] := rfl
  have hb := fd_bound l a j (n := n + 1) (by omega)
  have hw : IntKind.wrap .i64 (n + 1) = n + 1 := wrap64 (by omega) (by omega)
  have hk := fun fr => k16 l a j id (n + 1) fr st h ha (by omega) (by omega)
  unfold filtersV
  generalize fd l a j (n + 1) = z at *
  obtain ⟨r, rfl⟩ : ∃ r : Nat, z = (r : Int) := ⟨z.toNat, by omega⟩
  rw [Int.toNat_natCast]
  have L0 := fun e2 e9 e10 h2 h9 h10 T X => L34 raw hraw hrq l a id ha st h r (j + 1) 0 [] e2 e9 e10 h2 h9 h10 T X (by simp; omega) (by simp) (by omega)
  rw [dd_zero, show kof 1 ([] : List (List Pred)) = 0 from rfl, show encPredss [] = [] from rfl] at L0
  simp [-Int.natCast_add, -St.obj, -St.set, hk, hw, L0, -Int.not_le, -Int.not_lt, -Nat.not_le, -Nat.not_lt, ty3, ty4, ty9, ty27, ty29, ty49, ty51, hm, hl, hr, E34, e34_19, n34_8]
theorem k34 (raw : List Pred) (hraw : raw.length < 4611686018427387904) (hrq : ∀ p ∈ raw, QSm p) (l : List Int) (a j id : Nat) (n : Int) (hn0 : 0 ≤ n) (hn : n < 900) (fr : Fr) (st : St) (h : FeedOk st id) (ha : a < 549755813888) (hj : j < 549755700000) :
    callStep gS (EvF gS) 34 [.ptr id 0, .slice (encPreds raw), .int .i64 n] fr (setF st id l (nA l a j)) = some (.ok (.own (kof 1 (filtersV raw l a j n).1) (encPredss (filtersV raw l a j n).1)) (fr.map E.noMem) (setF (dd st (filtersV raw l a j n).2.2) id l (nA l a (filtersV raw l a j n).2.1))) := by
  unfold callStep
  simp only [show gS.ext 34 = none from rfl, fi34_eq, show fi34.pure = false from rfl, Bool.false_eq_true, if_false, c34 raw hraw hrq l a j id n hn0 hn st h ha hj, retE]
end
end Go.Proofs.Ytclpbfkbpcjejaa
namespace Go.Proofs.Ytclpbfkbpcjejaa
open Go Go.Ab
set_option linter.unusedVariables false
set_option linter.unusedSimpArgs false
set_option linter.unnecessarySimpa false
set_option maxRecDepth 20000
noncomputable section
variable (fr : Fr) (st : St) (k : Kt)
def fi46 : FI := { body := codeOf Try.f46, ntmps := 2, results := [.tmp 0], pers := [0], locals := [], pure := true, marks := [] }
theorem fi46_eq : gS.fn 46 = some fi46 := by kernel_rfl
theorem k46 (fr : Fr) (st : St) : callStep gS (EvF gS) 46 [] fr st = some (.ok (.val (.bool true)) fr st) := by
  have hc : EvF gS 46 [] ⟨[], 0⟩ = some (.ret (.bool true) none, ⟨[], 0⟩) := Evn.lim ⟨400, fun n hn => by
    obtain ⟨m, rfl⟩ : ∃ m, n = m + 400 := ⟨n - 400, by omega⟩
    kernel_rfl⟩
  exact call_pure' rfl fi46_eq rfl rfl ⟨_, hc⟩ rfl
theorem vsame_refl (a : Val) : vsame a a = true := by simp [vsame]
theorem sames_refl : ∀ l : List Val, sames l l = true
  | [] => rfl
  | a :: r => by simp [sames, vsame_refl, sames_refl r]
theorem psame_refl (p : Pred) : psame p p = true := by simp [psame, vsame_refl, sames_refl]
theorem fsames_refl : ∀ l : List Pred, fsames l l = true
  | [] => rfl
  | a :: r => by simp [fsames, psame_refl, fsames_refl r]
theorem fsame_refl (f : List Pred) : fsame f f = true := by simp [fsame, fsames_refl]
end
end Go.Proofs.Ytclpbfkbpcjejaa
namespace Go.Proofs.Ytclpbfkbpcjejaa
open Go Go.Ab
set_option linter.unusedVariables false
set_option linter.unusedSimpArgs false
set_option linter.unnecessarySimpa false
set_option maxRecDepth 20000
noncomputable section
variable (fr : Fr) (st : St) (k : Kt)
def fi7 : FI := { body := codeOf Try.f7, ntmps := 102, results := [.tmp 6], pers := [0, 1, 2, 6, 7, 8, 9, 10, 11, 12], locals := [], pure := false, marks := [] }
theorem fi7_eq : gS.fn 7 = some fi7 := by kernel_rfl
theorem st7 (a0 a1 a2 : V) : startFr fi7 [a0, a1, a2] = { ps := [(0, .val a0), (1, .val a1), (2, .val a2), (6, .any), (7, .any), (8, .any), (9, .any), (10, .any), (11, .any), (12, .any)], ts := [], lc := [] } := rfl
def b7 : Code := mini (codeOf Try.f7)
def c7_12 : Code := codeN b7 175
def c7_11 : Code := .cond (.tmp 29) c7_12 .skip
def c7_9 : Code := .seq (codeN b7 79) c7_11
def c7_22 : Code := .cond (.tmp 38) .skip (.exit 0)
def c7_20 : Code := .seq (codeN b7 2143) c7_22
def c7_34 : Code := .seq (codeN b7 160351) .ret
def c7_33 : Code := .cond (.tmp 91) c7_34 .skip
def c7_31 : Code := .seq (codeN b7 45663) c7_33
def c7_29 : Code := .seq (codeN b7 21087) c7_31
def c7_27 : Code := .seq (codeN b7 8799) c7_29
def c7_38 : Code := codeN b7 3679
def c7_25 : Code := .seq (.block 1 c7_27) c7_38
def c7_19 : Code := .seq c7_20 c7_25
def c7_18 : Code := .loop c7_19
def c7_17 : Code := .block 0 c7_18
def c7_15 : Code := .seq (codeN b7 159) c7_17
def c7_39 : Code := .seq (codeN b7 191) .ret
def c7_14 : Code := .seq c7_15 c7_39
def c7_8 : Code := .seq c7_9 c7_14
def c7_6 : Code := .seq (codeN b7 23) c7_8
def c7_4 : Code := .seq (codeN b7 11) c7_6
def c7_2 : Code := .seq (codeN b7 5) c7_4
def c7_0 : Code := .seq (codeN b7 2) c7_2
theorem E7 : (evK gS fi7 c7_12 fr st k = opsR gS fi7 [mv 30 1 50,
 mv 31 1 50,
 len1 32 31 50 3,
 op1 33 (.call { callee := (.builtin .min), args := #[(.tmp 32), (.const (.int .i64 6))], argTypes := #[3, 3] }) 3,
 op1 34 (.slice 50 (.tmp 30) none (some (.tmp 33)) none) 50,
 asn 9 34 50] fr st k) ∧
 evK gS fi7 c7_11 fr st k = condK gS fi7 (fr.op (.tmp 29)).bool? c7_12 .skip fr st k ∧
 (evK gS fi7 c7_9 fr st k = opsR gS fi7 [mv 27 7 29,
 cal 28 16 [(.tmp 27), (.const (.int .i64 8))] [29, 3] 3,
 op1 29 (.binOp .eql 3 (.tmp 28) (.const (.int .i64 0)) 3) 4] fr st (.seq c7_11 k)) ∧
 evK gS fi7 c7_22 fr st k = condK gS fi7 (fr.op (.tmp 38)).bool? .skip (.exit 0) fr st k ∧
 (evK gS fi7 c7_20 fr st k = opsR gS fi7 [mv 35 10 3,
 mv 36 8 51,
 len1 37 36 51 3,
 bop 38 .lss 3 35 37 3 4] fr st (.seq c7_22 k)) ∧
 evK gS fi7 c7_34 fr st k = opsR gS fi7 [op1 6 (.assign (.const (.bool false))) 4] fr st (.seq .ret k) ∧
 evK gS fi7 c7_33 fr st k = condK gS fi7 (fr.op (.tmp 91)).bool? c7_34 .skip fr st k ∧
 (evK gS fi7 c7_31 fr st k = opsR gS fi7 [mv 53 11 49,
 cal 54 37 [(.tmp 53)] [49] 4,
 mv 55 11 49,
 cal 56 38 [(.tmp 55)] [49] 4,
 bop 57 .neq 4 54 56 4 4,
 mv 58 57 4,
 mk (some 59) (.move (.tmp 11)) 49 (some (5, false)),
 mk (some 60) (.move (.tmp 9)) 50 (some (5, false)),
 mk (some 61) (.call { callee := (.value (.func 39)), args := #[(.tmp 59), (.tmp 60)], argTypes := #[49, 50] }) 4 (some (5, false)),
 mk (some 62) (.move (.tmp 11)) 49 (some (5, false)),
 mk (some 63) (.move (.tmp 9)) 50 (some (5, false)),
 mk (some 64) (.call { callee := (.value (.func 40)), args := #[(.tmp 62), (.tmp 63)], argTypes := #[49, 50] }) 4 (some (5, false)),
 mk (some 65) (.binOp .neq 4 (.tmp 61) (.tmp 64) 4) 4 (some (5, false)),
 op1 66 (.pick (.tmp 58) (.const (.bool true)) (.tmp 65)) 4,
 mv 67 66 4,
 mk (some 68) (.move (.tmp 11)) 49 (some (14, false)),
 mk (some 69) (.move (.tmp 12)) 49 (some (14, false)),
 mk (some 70) (.call { callee := (.value (.func 41)), args := #[(.tmp 68), (.tmp 69)], argTypes := #[49, 49] }) 4 (some (14, false)),
 mk (some 71) (.move (.tmp 11)) 49 (some (14, false)),
 mk (some 72) (.move (.tmp 12)) 49 (some (14, false)),
 mk (some 73) (.call { callee := (.value (.func 42)), args := #[(.tmp 71), (.tmp 72)], argTypes := #[49, 49] }) 4 (some (14, false)),
 mk (some 74) (.binOp .neq 4 (.tmp 70) (.tmp 73) 4) 4 (some (14, false)),
 op1 75 (.pick (.tmp 67) (.const (.bool true)) (.tmp 74)) 4,
 mv 76 75 4,
 mk (some 77) (.move (.tmp 11)) 49 (some (23, false)),
 mk (some 78) (.move (.tmp 12)) 49 (some (23, false)),
 mk (some 79) (.call { callee := (.value (.func 43)), args := #[(.tmp 77), (.tmp 78)], argTypes := #[49, 49] }) 4 (some (23, false)),
 mk (some 80) (.move (.tmp 11)) 49 (some (23, false)),
 mk (some 81) (.move (.tmp 12)) 49 (some (23, false)),
 mk (some 82) (.call { callee := (.value (.func 44)), args := #[(.tmp 80), (.tmp 81)], argTypes := #[49, 49] }) 4 (some (23, false)),
 mk (some 83) (.binOp .neq 4 (.tmp 79) (.tmp 82) 4) 4 (some (23, false)),
 op1 84 (.pick (.tmp 76) (.const (.bool true)) (.tmp 83)) 4,
 mv 85 84 4,
 mk (some 86) (.move (.tmp 11)) 49 (some (32, false)),
 mk (some 87) (.call { callee := (.value (.func 45)), args := #[(.tmp 86)], argTypes := #[49] }) 49 (some (32, false)),
 mk (some 88) (.move (.tmp 11)) 49 (some (32, false)),
 mk (some 89) (.call { callee := (.value (.func 42)), args := #[(.tmp 87), (.tmp 88)], argTypes := #[49, 49] }) 4 (some (32, false)),
 mk (some 90) (.unOp .not 4 (.tmp 89)) 4 (some (32, false)),
 op1 91 (.pick (.tmp 85) (.const (.bool true)) (.tmp 90)) 4] fr st (.seq c7_33 k)) ∧
 (evK gS fi7 c7_29 fr st k = opsR gS fi7 [mv 45 8 51,
 mv 46 10 3,
 op1 47 (.binOp .add 3 (.tmp 46) (.const (.int .i64 1)) 3) 3,
 mv 48 8 51,
 len1 49 48 51 3,
 bop 50 .rem 3 47 49 3 3,
 ixa 51 51 45 50 0,
 ld 52 49 51 49,
 asn 12 52 49] fr st (.seq c7_31 k)) ∧
 (evK gS fi7 c7_27 fr st k = opsR gS fi7 [mv 41 8 51,
 mv 42 10 3,
 ixa 43 51 41 42 0,
 ld 44 49 43 49,
 asn 11 44 49] fr st (.seq c7_29 k)) ∧
 (evK gS fi7 c7_38 fr st k = opsR gS fi7 [mv 39 10 3,
 op1 40 (.binOp .add 3 (.tmp 39) (.const (.int .i64 1)) 3) 3,
 asn 10 40 3] fr st k) ∧
 evK gS fi7 c7_25 fr st k = evK gS fi7 c7_27 fr st (.blk 1 (.seq c7_38 k)) ∧
 evK gS fi7 c7_19 fr st k = evK gS fi7 c7_20 fr st (.seq c7_25 k) ∧
 evK gS fi7 c7_17 fr st k = evK gS fi7 c7_18 fr st (.blk 0 k) ∧
 evK gS fi7 c7_15 fr st k = opsR gS fi7 [op1 10 (.assign (.const (.int .i64 0))) 3] fr st (.seq c7_17 k) ∧
 (evK gS fi7 c7_39 fr st k = opsR gS fi7 [cal 92 46 [] [] 4,
 mv 93 92 4,
 mk (some 94) (.move (.tmp 8)) 51 (some (1, true)),
 mk (some 95) (.move (.tmp 9)) 50 (some (1, true)),
 mk (some 96) (.call { callee := (.value (.func 47)), args := #[(.tmp 94), (.tmp 95)], argTypes := #[51, 50] }) 4 (some (1, true)),
 mk (some 97) (.move (.tmp 8)) 51 (some (1, true)),
 mk (some 98) (.move (.tmp 9)) 50 (some (1, true)),
 mk (some 99) (.call { callee := (.value (.func 48)), args := #[(.tmp 97), (.tmp 98)], argTypes := #[51, 50] }) 4 (some (1, true)),
 mk (some 100) (.binOp .eql 4 (.tmp 96) (.tmp 99) 4) 4 (some (1, true)),
 op1 101 (.pick (.tmp 93) (.tmp 100) (.const (.bool false))) 4,
 asn 6 101 4] fr st (.seq .ret k)) ∧
 evK gS fi7 c7_14 fr st k = evK gS fi7 c7_15 fr st (.seq c7_39 k) ∧
 evK gS fi7 c7_8 fr st k = evK gS fi7 c7_9 fr st (.seq c7_14 k) ∧
 (evK gS fi7 c7_6 fr st k = opsR gS fi7 [mv 25 7 29,
 cal 26 36 [(.tmp 25)] [29] 50,
 asn 9 26 50] fr st (.seq c7_8 k)) ∧
 (evK gS fi7 c7_4 fr st k = opsR gS fi7 [mv 16 7 29,
 mv 17 0 49,
 cal 18 34 [(.tmp 16), (.tmp 17), (.const (.int .i64 2))] [29, 49, 3] 51,
 mv 19 7 29,
 cal 20 35 [(.tmp 19)] [29] 49,
 mv 21 7 29,
 cal 22 35 [(.tmp 21)] [29] 49,
 op1 23 (.buildSlice 51 2 #[(0, (.tmp 20)), (1, (.tmp 22))]) 51,
 op1 24 (.call { callee := (.builtin .append), args := #[(.tmp 18), (.tmp 23)], argTypes := #[51, 51] }) 51,
 asn 8 24 51] fr st (.seq c7_6 k)) ∧
 (evK gS fi7 c7_2 fr st k = opsR gS fi7 [mv 13 2 28,
 op1 14 (.build 31 #[(0, (.tmp 13))]) 31,
 op1 15 (.box 31 (.tmp 14)) 29,
 asn 7 15 29] fr st (.seq c7_4 k)) ∧
 evK gS fi7 c7_0 fr st k = opsR gS fi7 [op1 6 (.assign (.const (.bool false))) 4] fr st (.seq c7_2 k) := ⟨evK_r 5 (by kernel_rfl), rfl, evK_rs 4 rfl (by kernel_rfl), rfl, evK_rs 7 rfl (by kernel_rfl), evK_rs 12 rfl (by kernel_rfl), rfl, evK_rs 11 rfl (by kernel_rfl), evK_rs 10 rfl (by kernel_rfl), evK_rs 9 rfl (by kernel_rfl), evK_r 8 (by kernel_rfl), rfl, rfl, rfl, evK_rs 6 rfl (by kernel_rfl), evK_rs 13 rfl (by kernel_rfl), rfl, rfl, evK_rs 3 rfl (by kernel_rfl), evK_rs 2 rfl (by kernel_rfl), evK_rs 1 rfl (by kernel_rfl), evK_rs 0 rfl (by kernel_rfl)⟩
theorem m7 : mini fi7.body = c7_0 := by kernel_rfl
theorem n7_18 (fr : Fr) (st : St) (k : Kt) : nextK gS fi7 (.loop c7_19 k) .normal fr st = evK gS fi7 c7_18 fr st k := rfl
set_option maxHeartbeats 8000000 in
theorem L7 (l : List (List Pred)) (hl1 : ∀ f ∈ l, PSm f) (hl2 : l.length < 1000000) (A : List Attr) (hA : A.length < 4611686018427387904) (st : St) (e0 e1 e2 e7 : E) (h0 : e0.Tame) (h1 : e1.Tame) (h2 : e2.Tame) (h7 : e7.Tame) (X : List (Nat × List V)) :
    ∀ (n i : Nat) (e11 e12 : E) (h11 : e11.Tame) (h12 : e12.Tame) (T : List (Nat × E)), i ≤ l.length → l.length - i = n →
    evK gS fi7 c7_18 { ps := [(0, e0), (1, e1), (2, e2), (6, .val (.bool false)), (7, e7), (8, .own 1 (encPredss l)), (9, .val (.slice (encAttrs A))), (10, .val (.int .i64 i)), (11, e11), (12, e12)], ts := T, lc := X } st (.blk 0 (.seq c7_39 .nil)) = some (.ret (.bool true) none, st) := by
  intro n
  have hm : fi7.marks = [] := rfl
  have hl : fi7.locals = [] := rfl
  have hr : fi7.results = [.tmp 6] := rfl
  induction n with
  | zero =>
    intro i e11 e12 h11 h12 T hi hn
    obtain rfl : i = l.length := by omega
    refine evK_loop c7_19 _ _ _ _ rfl ?_
    have k1 : ∀ (fr : Fr) (st : St), callStep gS (EvF gS) 47 [.slice (encPredss l), .slice (encAttrs A)] fr st = some (.ok (.val (.bool (fany l A))) fr st) := fun fr st => k47 l A (fun f hf => (hl1 f hf).ok) (by omega) hA fr st
    have k2 : ∀ (fr : Fr) (st : St), callStep gS (EvF gS) 48 [.slice (encPredss l), .slice (encAttrs A)] fr st = some (.ok (.val (.bool (fany l A))) fr st) := fun fr st => k48 l A (fun f hf => (hl1 f hf).ok) (by omega) hA fr st
    generalize fany l A = b1 at *
    simp [h0, h1, h2, h7, h11, h12, k1, k2, -Int.not_le, -Int.not_lt, -Nat.not_le, -Nat.not_lt, ty3, ty4, ty28, ty29, ty31, ty49, ty50, ty51, hm, hl, hr, k46, E7, n7_18]
  | succ n ih =>
    intro i e11 e12 h11 h12 T hi hn
    obtain ⟨x, hx⟩ : ∃ x, l[i]? = some x := ⟨l[i]'(by omega), List.getElem?_eq_getElem (by omega)⟩
    have hlt : (i : Int) < (l.length : Int) := by omega
    obtain ⟨hlt2, hxe⟩ := List.getElem?_eq_some_iff.1 hx
    have hw : IntKind.wrap .i64 ((i : Int) + 1) = ((i + 1 : Nat) : Int) := by rw [wrap64 (by omega) (by omega)]; omega
    obtain ⟨j, hj, hjl⟩ : ∃ j : Nat, ((i + 1 : Nat) : Int).tmod (l.length : Int) = (j : Int) ∧ j < l.length := by
      by_cases h : i + 1 = l.length
      · exact ⟨0, by rw [h, Int.tmod_self]; rfl, by omega⟩
      · exact ⟨i + 1, by rw [Int.tmod_eq_of_lt (by omega) (by omega)], by omega⟩
    obtain ⟨y, hy⟩ : ∃ y, l[j]? = some y := ⟨l[j]'hjl, List.getElem?_eq_getElem hjl⟩
    have hye : l[j]'hjl = y := (List.getElem?_eq_some_iff.1 hy).2
    have hjlt : (j : Int) < (l.length : Int) := by omega
    have hl0 : ¬ (l.length : Int) = 0 := by omega
    have hl00 : ¬ l = [] := by intro e; rw [e] at hlt2; simp at hlt2
    have hxp := hl1 x (List.mem_of_getElem? hx)
    have hyp := hl1 y (List.mem_of_getElem? hy)
    have hxo := hxp.ok
    have hyo := hyp.ok
    have k1 : ∀ (fr : Fr) (st : St), callStep gS (EvF gS) 37 [.slice (encPreds x)] fr st = some (.ok (.val (.bool (fright x))) fr st) := fun fr st => k37 x hxo fr st
    have k2 : ∀ (fr : Fr) (st : St), callStep gS (EvF gS) 38 [.slice (encPreds x)] fr st = some (.ok (.val (.bool (fright x))) fr st) := fun fr st => k38 x hxo fr st
    have k3 : ∀ (fr : Fr) (st : St), callStep gS (EvF gS) 39 [.slice (encPreds x), .slice (encAttrs A)] fr st = some (.ok (.val (.bool (ftakes x A))) fr st) := fun fr st => k39 x A hxo hA fr st
    have k4 : ∀ (fr : Fr) (st : St), callStep gS (EvF gS) 40 [.slice (encPreds x), .slice (encAttrs A)] fr st = some (.ok (.val (.bool (ftakes x A))) fr st) := fun fr st => k40 x A hxo hA fr st
    have k5 : ∀ (fr : Fr) (st : St), callStep gS (EvF gS) 41 [.slice (encPreds x), .slice (encPreds y)] fr st = some (.ok (.val (.bool (fsame x y))) fr st) := fun fr st => k41 x y hxo hyo fr st
    have k6 : ∀ (fr : Fr) (st : St), callStep gS (EvF gS) 42 [.slice (encPreds x), .slice (encPreds y)] fr st = some (.ok (.val (.bool (fsame x y))) fr st) := fun fr st => k42 x y hxo hyo fr st
    have k7 : ∀ (fr : Fr) (st : St), callStep gS (EvF gS) 43 [.slice (encPreds x), .slice (encPreds y)] fr st = some (.ok (.val (.bool (fcovers x y))) fr st) := fun fr st => k43 x y hxo hyo fr st
    have k8 : ∀ (fr : Fr) (st : St), callStep gS (EvF gS) 44 [.slice (encPreds x), .slice (encPreds y)] fr st = some (.ok (.val (.bool (fcovers x y))) fr st) := fun fr st => k44 x y hxo hyo fr st
    have k9 : ∀ (fr : Fr) (st : St), callStep gS (EvF gS) 45 [.slice (encPreds x)] fr st = some (.ok (.val (.slice (encPreds x))) fr st) := fun fr st => k45 x hxp fr st
    have hsr := fsame_refl x
    have k10 : ∀ (fr : Fr) (st : St), callStep gS (EvF gS) 42 [.slice (encPreds x), .slice (encPreds x)] fr st = some (.ok (.val (.bool true)) fr st) := fun fr st => by rw [k42 x x hxo hxo fr st, hsr]; rfl
    generalize fright x = b1 at *
    generalize ftakes x A = b2 at *
    generalize fcovers x y = b4 at *
    have IH := fun e11 e12 h11 h12 T => ih (i + 1) e11 e12 h11 h12 T (by omega) (by omega)
    refine evK_loop c7_19 _ _ _ _ rfl ?_
    by_cases hxy : x = y
    · subst hxy
      rw [hsr] at k5 k6
      simp [-Int.natCast_add, h0, h1, h2, h7, h11, h12, hx, hxe, hlt, hlt2, hw, hj, hjl, hy, hye, hjlt, hl0, hl00, k1, k2, k3, k4, k5, k6, k7, k8, k9, IH, -Int.not_le, -Int.not_lt, -Nat.not_le, -Nat.not_lt, ty3, ty4, ty28, ty29, ty31, ty49, ty50, ty51, hm, hl, hr, k46, E7, n7_18]
    · generalize fsame x y = b3 at *
      simp [-Int.natCast_add, h0, h1, h2, h7, h11, h12, hx, hxe, hlt, hlt2, hw, hj, hjl, hy, hye, hjlt, hl0, hl00, k1, k2, k3, k4, k5, k6, k7, k8, k9, k10, IH, -Int.not_le, -Int.not_lt, -Nat.not_le, -Nat.not_lt, ty3, ty4, ty28, ty29, ty31, ty49, ty50, ty51, hm, hl, hr, k46, E7, n7_18]
set_option maxHeartbeats 8000000 in
theorem c7 (raw : List Pred) (hraw : raw.length < 4611686018427387904) (hrq : ∀ p ∈ raw, QSm p) (odd : List Attr) (hodd : odd.length < 4611686018427387904) (l : List Int) (st : St) (hst : st.wp ≤ st.objs.length) : ∃ st', EvF gS 7 [.slice (encPreds raw), .slice (encAttrs odd), .slice (intVs l)] st = some (.ret (.bool true) none, st') := by
  have hm : fi7.marks = [] := rfl
  have hl : fi7.locals = [] := rfl
  have hr : fi7.results = [.tmp 6] := rfl
  have hf := feedOk_new hst
  have n1 := new_feed st l
  have k1 := fun fr => k34 raw hraw hrq l 0 0 st.objs.length 2 (by omega) (by omega) fr (nw st 0 []) hf (by omega) (by omega)
  have hall := filtersV_all (P := QSm) raw l 0 hrq (predV_qsm l 0) (filterV_qsm l 0) 0 2
  have hlen := filtersV_len raw l 0 0 (n := 2) (by omega)
  have hask := filtersV_asks raw l 0 0 (n := 2) (by omega)
  generalize filtersV raw l 0 0 2 = P1 at *
  obtain ⟨F, J, D⟩ := P1
  simp only at k1 hall hlen hask
  have hlen2 : F.length ≤ 2 := hlen
  have hask2 : J ≤ 0 + 1 + 49 * 2 := hask
  have k2 := fun fr => k35 l 0 J st.objs.length fr (dd (nw st 0 []) D) (hf.dd _) (by omega) (by omega)
  have a2 := filterV_asks l 0 J
  have q2 := filterV_qsm l 0 J
  have z2 := (filterV_ffv l 0 J).2
  generalize filterV l 0 J = P2 at *
  obtain ⟨F2, J2, D2⟩ := P2
  simp only at k2 a2 q2 z2
  have k3 := fun fr => k35 l 0 J2 st.objs.length fr (dd (dd (nw st 0 []) D) D2) ((hf.dd _).dd _) (by omega) (by omega)
  have a3 := filterV_asks l 0 J2
  have q3 := filterV_qsm l 0 J2
  have z3 := (filterV_ffv l 0 J2).2
  generalize filterV l 0 J2 = P3 at *
  obtain ⟨F3, J3, D3⟩ := P3
  simp only at k3 a3 q3 z3
  have k4 := fun fr => k36 l 0 J3 st.objs.length fr (dd (dd (dd (nw st 0 []) D) D2) D3) (((hf.dd _).dd _).dd _) (by omega) (by omega)
  have a4 := attrsV_asks l 0 J3
  have z4 := attrsV_len l 0 J3
  generalize attrsV l 0 J3 = P4 at *
  obtain ⟨A, J4⟩ := P4
  simp only at k4 a4 z4
  have k5 := fun fr => k16 l 0 J4 st.objs.length 8 fr (dd (dd (dd (nw st 0 []) D) D2) D3) (((hf.dd _).dd _).dd _) (by omega) (by omega) (by omega)
  have hps : ∀ f ∈ F ++ [F2, F3], PSm f := fun f hf => by
    rcases List.mem_append.1 hf with h | h
    · exact psm_of (hall f h)
    · simp at h
      rcases h with rfl | rfl
      · exact psm_of ⟨q2, by omega⟩
      · exact psm_of ⟨q3, by omega⟩
  have hen : encPredss F ++ [.slice (encPreds F2), .slice (encPreds F3)] = encPredss (F ++ [F2, F3]) := by simp [encPredss]
  have hen0 : encPredss [F2, F3] = [.slice (encPreds F2), .slice (encPreds F3)] := rfl
  have hs1 := sizes_predss F
  have b1 : (F.length + 2) * 24 ≤ 140737488355328 := by omega
  have b2 : F.length + 2 ≤ 140737488355328 := by omega
  have LL := fun A hA e7 e11 e12 h7 h11 h12 X T => L7 (F ++ [F2, F3]) hps (by simp; omega) A hA (setF (dd (dd (dd (nw st 0 []) D) D2) D3) st.objs.length l (nA l 0 (J4 + 1))) (.val (.slice (encPreds raw))) (.val (.slice (encAttrs odd))) (.val (.slice (intVs l))) e7 rfl rfl rfl h7 X (F ++ [F2, F3]).length 0 e11 e12 h11 h12 T (Nat.zero_le _) rfl
  rw [show ((0 : Nat) : Int) = 0 from rfl] at LL
  have hA : A.length < 4611686018427387904 := by omega
  refine ⟨setF (dd (dd (dd (nw st 0 []) D) D2) D3) st.objs.length l (nA l 0 (J4 + 1)), ?_⟩
  generalize hR : (Out.ret (V.bool true) none, setF (dd (dd (dd (nw st 0 []) D) D2) D3) st.objs.length l (nA l 0 (J4 + 1))) = R at *
  clear hR
  refine EvF_start fi7_eq (fun x h => by cases h) m7 ?_
  rw [st7]
  have fin : ∀ (A : List Attr) (hA : A.length < 4611686018427387904) (e7 e11 e12 : E) (h7 : e7.Tame) (h11 : e11.Tame) (h12 : e12.Tame) X T, evK gS fi7 c7_18 { ps := [(0, .val (.slice (encPreds raw))), (1, .val (.slice (encAttrs odd))), (2, .val (.slice (intVs l))), (6, .val (.bool false)), (7, e7), (8, .own 1 (encPredss (F ++ [F2, F3]))), (9, .val (.slice (encAttrs A))), (10, .val (.int .i64 0)), (11, e11), (12, e12)], ts := T, lc := X } (setF (dd (dd (dd (nw st 0 []) D) D2) D3) st.objs.length l (nA l 0 (J4 + 1))) (.blk 0 (.seq c7_39 .nil)) = some R := LL
  have htk : (encAttrs odd).take 6 = encAttrs (odd.take 6) := by simp [encAttrs]
  have htl : (odd.take 6).length < 4611686018427387904 := by simp; omega
  have hsa : sizesOk 6 (encAttrs odd) = true := by
    have : ∀ l : List Attr, sizesOk 6 (encAttrs l) = true := by
      intro l
      induction l with
      | nil => rfl
      | cons x r ih => simp only [encAttrs, List.map_cons, sizesOk] at ih ⊢; rw [ih]; rfl
    exact this odd
  by_cases h8 : fd l 0 J4 8 = 0
  · by_cases h6 : 6 < odd.length
    · have hge : (6 : Int) ≤ (odd.length : Int) := by omega
      rcases kof_or 1 F with ⟨hk, rfl⟩ | hk
      · rw [hk] at k1
        rw [List.nil_append, hen0] at fin
        rw [show encPredss [] = [] from rfl] at k1
        simp [n1, k1, k2, k3, k4, k5, h8, h6, hge, htk, hsa, -Int.not_le, -Int.not_lt, -Nat.not_le, -Nat.not_lt, ty3, ty4, ty28, ty29, ty31, ty49, ty50, ty51, hm, hl, hr, k46, E7, n7_18]
        exact fin _ htl _ _ _ (tame_val _) tame_any tame_any _ _
      · rw [hk] at k1
        simp [-List.append_assoc, n1, k1, k2, k3, k4, k5, h8, h6, hge, htk, hsa, hen, hs1, b1, b2, -Int.not_le, -Int.not_lt, -Nat.not_le, -Nat.not_lt, ty3, ty4, ty28, ty29, ty31, ty49, ty50, ty51, hm, hl, hr, k46, E7, n7_18]
        exact fin _ htl _ _ _ (tame_val _) tame_any tame_any _ _
    · have htk2 : (encAttrs odd).take odd.length = encAttrs (odd.take 6) := by
        rw [List.take_of_length_le (l := odd) (by omega), List.take_of_length_le (by simp)]
      rcases kof_or 1 F with ⟨hk, rfl⟩ | hk
      · rw [hk] at k1
        rw [List.nil_append, hen0] at fin
        rw [show encPredss [] = [] from rfl] at k1
        simp [n1, k1, k2, k3, k4, k5, h8, h6, htk2, hsa, -Int.not_le, -Int.not_lt, -Nat.not_le, -Nat.not_lt, ty3, ty4, ty28, ty29, ty31, ty49, ty50, ty51, hm, hl, hr, k46, E7, n7_18]
        exact fin _ htl _ _ _ (tame_val _) tame_any tame_any _ _
      · rw [hk] at k1
        simp [-List.append_assoc, n1, k1, k2, k3, k4, k5, h8, h6, htk2, hsa, hen, hs1, b1, b2, -Int.not_le, -Int.not_lt, -Nat.not_le, -Nat.not_lt, ty3, ty4, ty28, ty29, ty31, ty49, ty50, ty51, hm, hl, hr, k46, E7, n7_18]
        exact fin _ htl _ _ _ (tame_val _) tame_any tame_any _ _
  · rcases kof_or 1 F with ⟨hk, rfl⟩ | hk
    · rw [hk] at k1
      rw [List.nil_append, hen0] at fin
      rw [show encPredss [] = [] from rfl] at k1
      simp [n1, k1, k2, k3, k4, k5, h8, -Int.not_le, -Int.not_lt, -Nat.not_le, -Nat.not_lt, ty3, ty4, ty28, ty29, ty31, ty49, ty50, ty51, hm, hl, hr, k46, E7, n7_18]
      exact fin _ hA _ _ _ (tame_val _) tame_any tame_any _ _
    · rw [hk] at k1
      simp [-List.append_assoc, n1, k1, k2, k3, k4, k5, h8, hen, hs1, b1, b2, -Int.not_le, -Int.not_lt, -Nat.not_le, -Nat.not_lt, ty3, ty4, ty28, ty29, ty31, ty49, ty50, ty51, hm, hl, hr, k46, E7, n7_18]
      exact fin _ hA _ _ _ (tame_val _) tame_any tame_any _ _
theorem run7 (raw : List Pred) (hraw : raw.length < 4611686018427387904) (hrq : ∀ p ∈ raw, QSm p) (odd : List Attr) (hodd : odd.length < 4611686018427387904) (l : List Int) : ∃ st', EvF gS 7 [.slice (encPreds raw), .slice (encAttrs odd), .slice (intVs l)] ⟨[], 0⟩ = some (.ret (.bool true) none, st') := c7 raw hraw hrq odd hodd l ⟨[], 0⟩ (Nat.le_refl _)
end
end Go.Proofs.Ytclpbfkbpcjejaa
namespace Go.Ab
open Go Go.ChangeShapes Go.WideShapes
set_option linter.unusedVariables false
set_option linter.unusedSimpArgs false
set_option linter.unnecessarySimpa false
variable {H : Type} {enc : TypeId × Value → H} {P : Program} {w : World} {base b0 : Nat} {spare : Nat → Bool} {held : Bool} {r : Reach}
theorem arg_ints {t e : TypeId} {k : IntKind} {v : Value} {d : DataW H} {ps : List MemPlace} (ht : P.underlying t = some (.slice e)) (he : P.underlying e = some (.int k)) (hc : P.cellsOf e = 1)
    (hval : Value.okWide P w r b0 t v) (h : DataW.Trod enc P w base spare held t v d ps) : ∃ zs : List Int, Rep K0 w v (.slice (zs.map (V.int k))) ∧ ∀ n ∈ zs, (Lit.int k n).wf = true := by
  obtain ⟨a0, len, cap, rfl⟩ := okWide_slice ht hval
  obtain ⟨fuel, hf⟩ := h
  rcases open_ints ht he hc hf with ⟨hcs, _⟩ | ⟨a, len', cap', zs, hcs, _, hl, hm, hz, _, hcell, hwz⟩
  · simp [Value.cells] at hcs
    obtain ⟨rfl, rfl, rfl⟩ := hcs
    exact ⟨[], .slice0 _ _, by simp⟩
  · simp [Value.cells] at hcs
    obtain ⟨rfl, rfl, rfl⟩ := hcs
    have hzl : len ≤ zs.length := by rw [hz]; split <;> omega
    by_cases h0 : len = 0
    · subst h0; exact ⟨[], .slice0 _ _, by simp⟩
    · refine ⟨zs.take len, ?_, fun n hn => hwz n (List.mem_of_mem_take hn)⟩
      obtain ⟨b, off, spot⟩ := a
      have hspot : spot = none := by simpa [Addr.add] using World.cell?_spot (hcell 0 (by omega))
      subst hspot
      have hlen : ((zs.take len).map (V.int k)).length = len := by simp; omega
      have hfl : ((zs.take len).map (V.int k)).flatMap V.cells = (zs.take len).map (V.int k) := by
        generalize zs.take len = l
        induction l with
        | nil => rfl
        | cons x r ih => simp only [List.map_cons, List.flatMap_cons, ih]; rfl
      have key : Rep K0 w (.slice (some (at_ b off)) ((zs.take len).map (V.int k)).length cap) (.slice ((zs.take len).map (V.int k))) := by
        refine .slice (k := 1) (by rw [hlen]; exact hl) (fun x hx => ?_) ?_
        · obtain ⟨n, _, rfl⟩ := List.mem_map.1 hx; rfl
        · rw [hfl]
          refine RepAt.of_get fun j x hx => ?_
          rw [List.getElem?_map, List.getElem?_take] at hx
          split at hx
          · rename_i hj
            have hjz : j < zs.length := by omega
            rw [List.getElem?_eq_getElem hjz] at hx
            simp only [Option.map_some, Option.some.injEq] at hx
            subst hx
            refine ⟨.int k zs[j], ⟨?_, rfl⟩, .int _ _⟩
            have := hcell j hjz
            simp only [List.getD, List.getElem?_eq_getElem hjz, Option.getD_some] at this
            rwa [show ({ block := b, off := off } : Addr) = at_ b off from rfl, addr_add] at this
          · cases hx
      rw [hlen] at key
      exact key
end Go.Ab
namespace Go.Ab
open Go Go.ChangeShapes Go.WideShapes
set_option linter.unusedVariables false
set_option linter.unusedSimpArgs false
set_option linter.unnecessarySimpa false
variable {H : Type} {enc : TypeId × Value → H} {P : Program} {w : World} {base b0 : Nat} {spare : Nat → Bool} {held : Bool} {r : Reach}
/-- Plain types. -/
inductive Ty where
  | bool | int (k : IntKind) | float (k : FloatKind) | str
  | sl (e : Ty)
  | st (fs : List Ty)
mutual
def Ty.size : Ty → Nat
  | .st fs => Ty.sizes fs
  | _ => 1
def Ty.sizes : List Ty → Nat
  | [] => 0
  | f :: r => f.size + Ty.sizes r
end
mutual
/-- Is a type of the program that plain type? -/
def tyB (P : Program) : Ty → TypeId → Bool
  | .bool, t => match P.underlying t with | some .bool => true | _ => false
  | .int k, t => match P.underlying t with | some (.int k') => decide (k' = k) | _ => false
  | .float k, t => match P.underlying t with | some (.float k') => decide (k' = k) | _ => false
  | .str, t => match P.underlying t with | some .string => true | _ => false
  | .sl e, t => match P.underlying t with | some (.slice u) => tyB P e u && P.cellsOf u == e.size && Nat.blt 0 e.size | _ => false
  | .st fs, t => match P.underlying t with | some (.struct gs) => tyFs P fs gs.toList 0 && P.cellsOf t == Ty.sizes fs | _ => false
def tyFs (P : Program) : List Ty → List Field → Nat → Bool
  | [], [], _ => true
  | f :: fs, g :: gs, off => g.offset == off && tyB P f g.type && P.cellsOf g.type == f.size && tyFs P fs gs (off + f.size)
  | _, _, _ => false
end
/-- An element made of its cells. -/
def elt : Ty → List V → V
  | .st _, cs => .agg cs
  | _, cs => cs.headD .any
mutual
/-- What cells of a plain type look like. -/
def Fits : Ty → List V → Prop
  | .bool, cs => ∃ b, cs = [.bool b]
  | .int k, cs => ∃ n, cs = [.int k n]
  | .float k, cs => ∃ b, cs = [.float k b]
  | .str, cs => ∃ s, cs = [.str s]
  | .sl e, cs => ∃ xs : List (List V), cs = [.slice (xs.map (elt e))] ∧ ∀ x ∈ xs, Fits e x
  | .st fs, cs => FitsL fs cs
def FitsL : List Ty → List V → Prop
  | [], cs => cs = []
  | f :: fs, cs => ∃ a b, cs = a ++ b ∧ Fits f a ∧ FitsL fs b
end
mutual
theorem fits_len : ∀ (T : Ty) {cs : List V}, Fits T cs → cs.length = T.size
  | .bool, _, h => by obtain ⟨b, rfl⟩ := h; rfl
  | .int k, _, h => by obtain ⟨b, rfl⟩ := h; rfl
  | .float k, _, h => by obtain ⟨b, rfl⟩ := h; rfl
  | .str, _, h => by obtain ⟨b, rfl⟩ := h; rfl
  | .sl e, _, h => by obtain ⟨b, rfl, _⟩ := h; rfl
  | .st fs, _, h => fitsL_len fs h
theorem fitsL_len : ∀ (fs : List Ty) {cs : List V}, FitsL fs cs → cs.length = Ty.sizes fs
  | [], _, h => by have : _ = _ := h; subst this; rfl
  | f :: fs, _, h => by
    obtain ⟨a, b, rfl, h1, h2⟩ := h
    rw [List.length_append, fits_len f h1, fitsL_len fs h2]; rfl
end
theorem elt_cells {T : Ty} {cs : List V} (h : Fits T cs) : (elt T cs).cells = cs := by
  cases T with
  | st fs => rfl
  | bool => obtain ⟨b, rfl⟩ := h; rfl
  | int k => obtain ⟨b, rfl⟩ := h; rfl
  | float k => obtain ⟨b, rfl⟩ := h; rfl
  | str => obtain ⟨b, rfl⟩ := h; rfl
  | sl e => obtain ⟨b, rfl, _⟩ := h; rfl
theorem reps_append' {κ : K} {w : World} {vs us : List Value} {xs ys : List V} (h : Reps κ w vs xs) (k : Reps κ w us ys) : Reps κ w (vs ++ us) (xs ++ ys) := by
  induction xs generalizing vs with
  | nil => cases h; exact k
  | cons x r ih =>
    cases h with
    | cons h1 h2 => exact .cons h1 (ih h2)
theorem reps_get' {κ : K} {w : World} {vs : List Value} {xs : List V} (h : Reps κ w vs xs) : ∀ (j : Nat) x, xs[j]? = some x → ∃ v, vs[j]? = some v ∧ Rep κ w v x := by
  induction xs generalizing vs with
  | nil => intro j x hx; simp at hx
  | cons y r ih =>
    cases h with
    | cons h1 h2 =>
      intro j x hx
      cases j with
      | zero => simp at hx; subst hx; exact ⟨_, rfl, h1⟩
      | succ j => simpa using ih h2 j x (by simpa using hx)
/-- Cells of each of many elements, one behind the other. -/
theorem cells_at {k : Nat} (hk : 0 < k) {b off : Nat} : ∀ {n : Nat} (f : Nat → List Value) (g : Nat → List V), (∀ i, i < n → (f i).length = k ∧ Reps K0 w (f i) (g i) ∧ (g i).length = k ∧ ∀ j, j < k → w.cell? (at_ b (off + (i * k + j))) = (f i)[j]?) →
    RepAt K0 w b off (((List.range n).map g).flatMap id) := by
  intro n f g h
  refine RepAt.of_get fun j x hx => ?_
  have hc : ∀ (m : Nat), m ≤ n → ((((List.range m).map g).flatMap id).length = m * k) := by
    intro m
    induction m with
    | zero => intro _; simp
    | succ m ih =>
      intro hm
      rw [List.range_succ, List.map_append, List.flatMap_append, List.length_append, ih (by omega)]
      simp [(h m (by omega)).2.2.1, Nat.succ_mul]
  have key : ∀ (m : Nat), m ≤ n → ∀ j x, ((((List.range m).map g).flatMap id)[j]? = some x) → ∃ v, w.cell? (at_ b (off + j)) = some v ∧ Rep K0 w v x := by
    intro m
    induction m with
    | zero => intro _ j x hx; simp at hx
    | succ m ih =>
      intro hm j x hx
      rw [List.range_succ, List.map_append, List.flatMap_append] at hx
      by_cases hj : j < m * k
      · rw [List.getElem?_append_left (by rw [hc m (by omega)]; exact hj)] at hx
        exact ih (by omega) j x hx
      · rw [List.getElem?_append_right (by rw [hc m (by omega)]; omega), hc m (by omega)] at hx
        simp only [List.map_cons, List.map_nil, List.flatMap_cons, List.flatMap_nil, id, List.append_nil] at hx
        obtain ⟨h1, h2, h3, h4⟩ := h m (by omega)
        obtain ⟨v, hv, hr⟩ := reps_get' h2 _ _ hx
        have hjl := (List.getElem?_eq_some_iff.1 hx).1
        rw [h3] at hjl
        refine ⟨v, ?_, hr⟩
        have := h4 (j - m * k) hjl
        rw [hv] at this
        rw [← this]; congr 2; omega
  obtain ⟨v, hv, hr⟩ := key n (Nat.le_refl _) j x hx
  exact ⟨v, ⟨hv, rfl⟩, hr⟩
theorem choose_range {α : Type} [Inhabited α] {n : Nat} {p : Nat → α → Prop} (h : ∀ i, i < n → ∃ x, p i x) : ∃ f : Nat → α, ∀ i, i < n → p i (f i) := by
  refine ⟨fun i => if hi : i < n then Classical.choose (h i hi) else default, fun i hi => ?_⟩
  simp only [hi, dif_pos]
  exact Classical.choose_spec (h i hi)
mutual
theorem any_ok : ∀ (T : Ty) {fuel : Nat} {t : TypeId} {cs : List Value} {x : DataW H × List MemPlace}, tyB P T t = true → DataW.trod enc P w base spare held fuel t cs = some x → ∃ xs, Reps K0 w cs xs ∧ Fits T xs
  | .bool, fuel, t, cs, x, ht, h => by
    unfold tyB at ht
    split at ht
    · rename_i hu
      obtain ⟨b, rfl, _⟩ := DataW.trod_bool hu h
      exact ⟨[.bool b], .cons (.bool b) .nil, b, rfl⟩
    · cases ht
  | .int k, fuel, t, cs, x, ht, h => by
    unfold tyB at ht
    split at ht
    · rename_i k' hu
      obtain ⟨n, rfl, _⟩ := DataW.trod_int hu h
      have := of_decide_eq_true ht
      subst this
      exact ⟨[.int k' n], .cons (.int k' n) .nil, n, rfl⟩
    · cases ht
  | .float k, fuel, t, cs, x, ht, h => by
    unfold tyB at ht
    split at ht
    · rename_i k' hu
      have hk := of_decide_eq_true ht
      subst hk
      cases fuel with
      | zero => simp [DataW.trod] at h
      | succ n =>
        unfold DataW.trod at h
        rw [hu] at h
        split at h <;> simp_all
        obtain ⟨⟨rfl, _⟩, _⟩ := h
        exact ⟨_, .cons (.float _ _) .nil, _, rfl⟩
    · cases ht
  | .str, fuel, t, cs, x, ht, h => by
    unfold tyB at ht
    split at ht
    · rename_i hu
      obtain ⟨s, rfl, _⟩ := DataW.trod_string hu h
      exact ⟨[.str s.data.toList], .cons (.str s) .nil, _, rfl⟩
    · cases ht
  | .sl e, fuel, t, cs, x, ht, h => by
    unfold tyB at ht
    split at ht
    · rename_i u hu
      simp only [Bool.and_eq_true, beq_iff_eq, Nat.blt_eq] at ht
      obtain ⟨⟨h1, h2⟩, h3⟩ := ht
      rcases DataW.trod_slice hu h with ⟨rfl, _⟩ | ⟨a, len, cap, elems, rest, n, rfl, rfl, _, hb, hl, hm, hlen, hel, _, _⟩
      · exact ⟨[.slice []], .cons (.slice0 _ _) .nil, [], rfl, by simp⟩
      · by_cases h0 : len = 0
        · subst h0; exact ⟨[.slice []], .cons (.slice0 _ _) .nil, [], rfl, by simp⟩
        · rw [h2] at hel
          have each : ∀ i, i < len → ∃ c : List Value × List V, c.1.length = e.size ∧ Reps K0 w c.1 c.2 ∧ Fits e c.2 ∧ ∀ j, j < e.size → w.cell? ((a.add (i * e.size)).add j) = c.1[j]? := by
            intro i hi
            have hi' := hel i hi
            rw [List.getElem?_eq_getElem (by omega)] at hi'
            obtain ⟨c, hc1, hc2⟩ := Option.bind_eq_some_iff.1 hi'
            obtain ⟨_, c1, c2⟩ := World.cells?_some hc1
            obtain ⟨xs, x1, x2⟩ := any_ok e h1 hc2
            exact ⟨(c, xs), c1, x1, x2, c2⟩
          obtain ⟨f, hf⟩ := choose_range each
          obtain ⟨b, off, spot⟩ := a
          have hspot : spot = none := by
            obtain ⟨q1, q2, q3, q4⟩ := hf 0 (by omega)
            have := q4 0 h3
            rw [List.getElem?_eq_getElem (by omega)] at this
            have := World.cell?_spot this
            simpa [Addr.add] using this
          subst hspot
          have hat : RepAt K0 w b off (((List.range len).map fun i => (f i).2).flatMap id) := cells_at h3 (fun i => (f i).1) (fun i => (f i).2) fun i hi => by
            obtain ⟨q1, q2, q3, q4⟩ := hf i hi
            refine ⟨q1, q2, fits_len e q3, fun j hj => ?_⟩
            have := q4 j hj
            rw [show ({ block := b, off := off } : Addr) = at_ b off from rfl, addr_add, addr_add] at this
            rw [← this]; congr 2; omega
          let xs := (List.range len).map fun i => (f i).2
          have hxl : (xs.map (elt e)).length = len := by simp [xs]
          have hfit : ∀ x ∈ xs, Fits e x := by
            intro x hx
            obtain ⟨i, hi, rfl⟩ := List.mem_map.1 hx
            exact (hf i (List.mem_range.1 hi)).2.2.1
          have hfl : (xs.map (elt e)).flatMap V.cells = xs.flatMap id := by
            have : ∀ l : List (List V), (∀ x ∈ l, Fits e x) → (l.map (elt e)).flatMap V.cells = l.flatMap id := by
              intro l
              induction l with
              | nil => intro _; rfl
              | cons y r ih =>
                intro hl
                simp only [List.map_cons, List.flatMap_cons]
                rw [elt_cells (hl y (by simp)), ih (fun z hz => hl z (by simp [hz]))]; rfl
            exact this xs hfit
          have key := Rep.slice (κ := K0) (w := w) (b := b) (o := off) (cap := cap) (k := e.size) (xs := xs.map (elt e)) (by rw [hxl]; exact hl) (fun y hy => by
            obtain ⟨z, hz, rfl⟩ := List.mem_map.1 hy
            rw [elt_cells (hfit z hz)]; exact fits_len e (hfit z hz)) (by rw [hfl]; exact hat)
          rw [hxl] at key
          exact ⟨[.slice (xs.map (elt e))], .cons key .nil, xs, rfl, hfit⟩
    · cases ht
  | .st fs, fuel, t, cs, x, ht, h => by
    unfold tyB at ht
    split at ht
    · rename_i gs hu
      simp only [Bool.and_eq_true, beq_iff_eq] at ht
      obtain ⟨ys, n, rfl, _, hcl, hyl, hf⟩ := DataW.trod_struct hu h
      have := anyL_ok fs gs.toList 0 cs (n := n) ht.1 (fun i f hi => by
        have hi' : gs[i]? = some f := by rw [← Array.getElem?_toList]; exact hi
        have h1 := hf i f hi'
        have h2 : i < ys.length := by rw [hyl]; exact (Array.getElem?_eq_some_iff.1 hi').1
        rw [List.getElem?_eq_getElem h2] at h1
        exact ⟨_, h1⟩) (by rw [hcl, ht.2]; simp)
      obtain ⟨xs, h1, h2⟩ := this
      rw [List.drop_zero] at h1
      exact ⟨xs, h1, h2⟩
    · cases ht
theorem anyL_ok : ∀ (fs : List Ty) (gs : List Field) (off : Nat) (cs : List Value) {n : Nat}, tyFs P fs gs off = true → (∀ (i : Nat) (f : Field), gs[i]? = some f → ∃ x, DataW.trod enc P w base spare held n f.type ((cs.drop f.offset).take (P.cellsOf f.type)) = some x) → cs.length = off + Ty.sizes fs →
    ∃ xs, Reps K0 w (cs.drop off) xs ∧ FitsL fs xs
  | [], gs, off, cs, n, ht, h, hl => by
    have : cs.drop off = [] := List.drop_of_length_le (by rw [hl]; exact Nat.le_refl _)
    rw [this]
    exact ⟨[], .nil, rfl⟩
  | f :: fs, [], off, cs, n, ht, h, hl => by simp [tyFs] at ht
  | f :: fs, g :: gs, off, cs, n, ht, h, hl => by
    simp only [tyFs, Bool.and_eq_true, beq_iff_eq] at ht
    obtain ⟨⟨⟨h1, h2⟩, h3⟩, h4⟩ := ht
    obtain ⟨x, hx⟩ := h 0 g rfl
    rw [h1, h3] at hx
    obtain ⟨xs, x1, x2⟩ := any_ok f h2 hx
    have hs : Ty.sizes (f :: fs) = f.size + Ty.sizes fs := rfl
    obtain ⟨ys, y1, y2⟩ := anyL_ok fs gs (off + f.size) cs h4 (fun i q hi => h (i + 1) q hi) (by rw [hl, hs]; omega)
    refine ⟨xs ++ ys, ?_, xs, ys, rfl, x2, y2⟩
    have hsp : cs.drop off = (cs.drop off).take f.size ++ cs.drop (off + f.size) := by
      rw [← List.drop_drop, List.take_append_drop]
    rw [hsp]
    exact reps_append' x1 y1
end
/-- An argument of a plain type. -/
theorem arg_any (T : Ty) {t : TypeId} {v : Value} {d : DataW H} {ps : List MemPlace} (ht : tyB P T t = true) (h : DataW.Trod enc P w base spare held t v d ps) : ∃ xs, Reps K0 w v.cells.toList xs ∧ Fits T xs := by
  obtain ⟨fuel, hf⟩ := h
  exact any_ok T ht hf
end Go.Ab
namespace Go.Ab
open Go Go.ChangeShapes Go.WideShapes
set_option linter.unusedVariables false
set_option linter.unusedSimpArgs false
set_option linter.unnecessarySimpa false
variable {H : Type} {enc : TypeId × Value → H} {P : Program} {w : World} {base b0 : Nat} {spare : Nat → Bool} {held : Bool} {r : Reach}
def TVal : List Ty := [.int .i64, .int .i64, .float .f64, .str, .bool]
def TPred : List Ty := [.str, .int .i64, .st TVal, .st TVal, .sl (.st TVal)]
theorem fits_val {cs : List V} (h : Fits (.st TVal) cs) : ∃ v : Val, cs = v.cells := by
  obtain ⟨_, _, rfl, ⟨k, rfl⟩, _, _, rfl, ⟨n, rfl⟩, _, _, rfl, ⟨x, rfl⟩, _, _, rfl, ⟨s, rfl⟩, _, _, rfl, ⟨b, rfl⟩, h⟩ := h
  cases h
  exact ⟨⟨k, n, x, s, b⟩, rfl⟩
theorem fits_vals : ∀ {xs : List (List V)}, (∀ x ∈ xs, Fits (.st TVal) x) → ∃ vs : List Val, xs.map (elt (.st TVal)) = encVals vs
  | [], _ => ⟨[], rfl⟩
  | x :: r, h => by
    obtain ⟨v, hv⟩ := fits_val (h x (by simp))
    obtain ⟨vs, hs⟩ := fits_vals (xs := r) (fun y hy => h y (by simp [hy]))
    refine ⟨v :: vs, ?_⟩
    rw [List.map_cons, hs, hv]; rfl
theorem fits_pred {cs : List V} (h : Fits (.st TPred) cs) : ∃ p : Pred, cs = p.cells := by
  obtain ⟨_, _, rfl, ⟨nm, rfl⟩, _, _, rfl, ⟨t, rfl⟩, _, _, rfl, hv, _, _, rfl, hw, _, _, rfl, ⟨xs, rfl, hx⟩, h⟩ := h
  cases h
  obtain ⟨v, rfl⟩ := fits_val hv
  obtain ⟨u, rfl⟩ := fits_val hw
  obtain ⟨vs, hs⟩ := fits_vals hx
  refine ⟨⟨nm, t, v, u, vs⟩, ?_⟩
  rw [hs]; rfl
end Go.Ab
namespace Go.Ab
open Go Go.ChangeShapes Go.WideShapes
set_option linter.unusedVariables false
set_option linter.unusedSimpArgs false
set_option linter.unnecessarySimpa false
variable {H : Type} {enc : TypeId × Value → H} {P : Program} {w : World} {base b0 : Nat} {spare : Nat → Bool} {held : Bool} {r : Reach}
mutual
def Ty.bytes : Ty → Nat
  | .bool => 1
  | .int .i64 => 8
  | .int _ => 1
  | .float _ => 8
  | .str => 16
  | .sl _ => 24
  | .st fs => (Ty.bytess fs + 7) / 8 * 8
def Ty.bytess : List Ty → Nat
  | [] => 0
  | f :: r => f.bytes + Ty.bytess r
end
mutual
/-- Are the bytes of a type's parts at least so many? -/
def byB (P : Program) : Ty → TypeId → Bool
  | .sl e, t => match P.underlying t with | some (.slice u) => Nat.ble e.bytes (P.bytesOf u) && byB P e u | _ => false
  | .st fs, t => match P.underlying t with | some (.struct gs) => byFs P fs (gs.toList.map (·.type)) | _ => false
  | _, _ => true
def byFs (P : Program) : List Ty → List TypeId → Bool
  | [], [] => true
  | f :: fs, g :: gs => byB P f g && byFs P fs gs
  | _, _ => false
end
mutual
/-- How long the parts may be. -/
def Bnd : Ty → List V → Prop
  | .str, cs => ∃ s, cs = [.str s] ∧ s.length ≤ reachBytes
  | .sl e, cs => ∃ xs : List (List V), cs = [.slice (xs.map (elt e))] ∧ (∀ x ∈ xs, Fits e x) ∧ xs.length * e.bytes ≤ reachBytes ∧ ∀ x ∈ xs, Bnd e x
  | .st fs, cs => BndL fs cs
  | _, _ => True
def BndL : List Ty → List V → Prop
  | [], _ => True
  | f :: fs, cs => Bnd f (cs.take f.size) ∧ BndL fs (cs.drop f.size)
end
theorem weights_all {H : Type} {P : Program} {e : TypeId} : ∀ {l : List (DataW H)} {d : DataW H} {n : Nat}, d ∈ l → n ∈ d.weights P e → n ∈ DataW.weightsAll P e l
  | d0 :: r, d, n, hd, hn => by
    simp only [DataW.weightsAll, List.mem_append]
    rcases List.mem_cons.1 hd with rfl | hd
    · exact .inl hn
    · exact .inr (weights_all hd hn)
theorem rep_slice_len {κ : K} {w : World} {v : Value} {q : List V} (h : Rep κ w v (.slice q)) : ∃ a cap, v = .slice a q.length cap := by
  cases h with
  | slice0 a cap => exact ⟨a, cap, rfl⟩
  | slice _ _ _ => exact ⟨_, _, rfl⟩
theorem reps_of {κ : K} {w : World} : ∀ {cs : List Value} {xs : List V}, cs.length = xs.length → (∀ (j : Nat) x, xs[j]? = some x → ∃ v, cs[j]? = some v ∧ Rep κ w v x) → Reps κ w cs xs
  | [], [], _, _ => .nil
  | [], _ :: _, h, _ => by simp at h
  | _ :: _, [], h, _ => by simp at h
  | c :: cs, x :: xs, h, k => by
    obtain ⟨v, hv, hr⟩ := k 0 x rfl
    simp at hv; subst hv
    exact .cons hr (reps_of (by simpa using h) fun j y hy => by simpa using k (j + 1) y (by simpa using hy))
theorem reps_split {κ : K} {w : World} : ∀ {a : List Value} {x : List V} {b : List Value} {y : List V}, a.length = x.length → Reps κ w (a ++ b) (x ++ y) → Reps κ w a x ∧ Reps κ w b y
  | [], [], _, _, _, h => ⟨.nil, h⟩
  | [], _ :: _, _, _, h, _ => by simp at h
  | _ :: _, [], _, _, h, _ => by simp at h
  | v :: a, z :: x, b, y, h, k => by
    cases k with
    | cons h1 h2 =>
      obtain ⟨p, q⟩ := reps_split (by simpa using h) h2
      exact ⟨.cons h1 p, q⟩
theorem RepAt.get {κ : K} {w : World} {b : Nat} : ∀ {xs : List V} {o : Nat}, RepAt κ w b o xs → ∀ (j : Nat) x, xs[j]? = some x → ∃ v, Imm κ w b (o + j) v ∧ Rep κ w v x
  | [], _, _, _, _, h => by simp at h
  | y :: r, o, h, j, x, hx => by
    cases h with
    | cons hi h1 h2 =>
      cases j with
      | zero => simp at hx; subst hx; exact ⟨_, hi, h1⟩
      | succ j =>
        obtain ⟨v, hv, hr⟩ := RepAt.get h2 j x (by simpa using hx)
        exact ⟨v, by rw [show o + (j + 1) = o + 1 + j by omega]; exact hv, hr⟩
mutual
/-- Cells that lie there as they were read are no longer than their weights. -/
theorem bnd_ok : ∀ (T : Ty) {fuel : Nat} {t : TypeId} {cs : List Value} {x : DataW H × List MemPlace} {xs : List V}, tyB P T t = true → byB P T t = true → DataW.trod enc P w base spare held fuel t cs = some x → Reps K0 w cs xs → Fits T xs → (∀ n ∈ x.1.weights P t, n ≤ reachBytes) → Bnd T xs
  | .bool, _, _, _, _, _, _, _, _, _, _, _ => trivial
  | .int _, _, _, _, _, _, _, _, _, _, _, _ => trivial
  | .float _, _, _, _, _, _, _, _, _, _, _, _ => trivial
  | .str, fuel, t, cs, x, xs, ht, hb, h, hr, hf, hw => by
    unfold tyB at ht
    split at ht
    · rename_i hu
      obtain ⟨s, rfl, rfl, _⟩ := DataW.trod_string hu h
      obtain ⟨s', rfl⟩ := hf
      cases hr with
      | cons h1 h2 =>
        cases h1 with
        | str => exact ⟨_, rfl, hw _ (by simp [DataW.weights])⟩
    · cases ht
  | .sl e, fuel, t, cs, x, ys, ht, hb, h, hr, hf, hw => by
    unfold tyB at ht
    unfold byB at hb
    split at ht
    · rename_i u hu
      rw [hu] at hb
      simp only [Bool.and_eq_true, beq_iff_eq, Nat.blt_eq, Nat.ble_eq] at ht hb
      obtain ⟨⟨h1, h2⟩, h3⟩ := ht
      obtain ⟨xs, rfl, hfe⟩ := hf
      refine ⟨xs, rfl, hfe, ?_⟩
      rcases DataW.trod_slice hu h with ⟨rfl, _⟩ | ⟨a, len, cap, elems, rest, n, rfl, rfl, rfl, hbs, hl, hm, hlen, hel, _, _⟩
      · cases hr with
        | cons h4 h5 =>
          have : xs = [] := by
            obtain ⟨a, cap, he⟩ := rep_slice_len h4
            simp at he
            exact List.length_eq_zero_iff.1 he.2.1.symm
          subst this
          exact ⟨by simp, by simp⟩
      · have hxl : xs.length = len := by
          cases hr with
          | cons h4 h5 =>
            generalize hq : xs.map (elt e) = q at h4
            have hql : q.length = xs.length := by rw [← hq]; simp
            cases h4 with
            | slice0 _ _ => simp at hql; omega
            | slice _ _ _ => omega
        simp only [DataW.weights, hu, List.mem_cons, List.mem_append] at hw
        have hw0 := hw _ (.inl rfl)
        refine ⟨?_, ?_⟩
        · rw [hxl, ← hlen]
          refine Nat.le_trans ?_ hw0
          simp only [List.length_map]
          exact Nat.mul_le_mul (by omega) hb.1
        · intro z hz
          obtain ⟨i, hi, hzi⟩ := List.getElem_of_mem hz
          have hil : i < len := by omega
          have hi' := hel i hil
          rw [List.getElem?_eq_getElem (by omega)] at hi'
          obtain ⟨c, hc1, hc2⟩ := Option.bind_eq_some_iff.1 hi'
          obtain ⟨_, c1, c2⟩ := World.cells?_some hc1
          rw [h2] at c1 c2
          -- the cells that stand for the element
          have hrz : Reps K0 w c z := by
            cases hr with
            | cons h4 h5 =>
              generalize hq : xs.map (elt e) = q at h4
              have hql : q.length = xs.length := by rw [← hq]; simp
              cases h4 with
              | slice0 _ _ => simp at hql; omega
              | @slice b off cap' k ys' hcap hk hat =>
                have hzs : Fits e z := hfe z hz
                have hfl : (xs.map (elt e)).flatMap V.cells = xs.flatMap id := by
                  have : ∀ l : List (List V), (∀ x ∈ l, Fits e x) → (l.map (elt e)).flatMap V.cells = l.flatMap id := by
                    intro l
                    induction l with
                    | nil => intro _; rfl
                    | cons y r ih =>
                      intro hl
                      simp only [List.map_cons, List.flatMap_cons]
                      rw [elt_cells (hl y (by simp)), ih (fun z hz => hl z (by simp [hz]))]; rfl
                  exact this xs hfe
                rw [← hq, hfl] at hat
                have hgl : ∀ l : List (List V), (∀ x ∈ l, Fits e x) → ∀ (i : Nat) (z : List V), l[i]? = some z → ∀ j, j < e.size → (l.flatMap id)[i * e.size + j]? = z[j]? := by
                  intro l
                  induction l with
                  | nil => intro _ i z hz; simp at hz
                  | cons y r ih =>
                    intro hl i z hz j hj
                    have hyl := fits_len e (hl y (by simp))
                    cases i with
                    | zero =>
                      simp at hz; subst hz
                      rw [List.flatMap_cons, Nat.zero_mul, Nat.zero_add, List.getElem?_append_left (by rw [id, hyl]; exact hj)]; rfl
                    | succ i =>
                      rw [List.flatMap_cons, List.getElem?_append_right (by rw [id, hyl, Nat.succ_mul]; omega), show (i + 1) * e.size + j - (id y).length = i * e.size + j by rw [id, hyl, Nat.succ_mul]; omega]
                      exact ih (fun z hz => hl z (by simp [hz])) i z (by simpa using hz) j hj
                have hzg : xs[i]? = some z := by rw [List.getElem?_eq_getElem hi, hzi]
                have hzl := fits_len e hzs
                refine reps_of (by rw [c1, hzl]) fun j x hx => ?_
                have hjl := (List.getElem?_eq_some_iff.1 hx).1
                have h6 := hgl xs hfe i z hzg j (by omega)
                rw [hx] at h6
                obtain ⟨v, hv, hrv⟩ := RepAt.get hat _ _ h6
                refine ⟨v, ?_, hrv⟩
                have h7 := c2 j (by omega)
                rw [addr_add, addr_add] at h7
                rw [← h7, ← hv.1]
                congr 2
                omega
          exact bnd_ok e h1 hb.2 hc2 hrz (hfe z hz) fun n hn => hw n (.inr (.inl (weights_all (List.mem_map.2 ⟨_, List.getElem_mem (by omega), rfl⟩) hn)))
    · cases ht
  | .st fs, fuel, t, cs, x, xs, ht, hb, h, hr, hf, hw => by
    unfold tyB at ht
    unfold byB at hb
    split at ht
    · rename_i gs hu
      rw [hu] at hb
      simp only [Bool.and_eq_true, beq_iff_eq] at ht
      obtain ⟨ys, n, rfl, rfl, hcl, hyl, hf2⟩ := DataW.trod_struct hu h
      have := bndL_ok fs gs.toList 0 cs xs (n := n) ht.1 hb (fun i f hi => by
        have hi' : gs[i]? = some f := by rw [← Array.getElem?_toList]; exact hi
        have h1 := hf2 i f hi'
        have h2 : i < ys.length := by rw [hyl]; exact (Array.getElem?_eq_some_iff.1 hi').1
        rw [List.getElem?_eq_getElem h2] at h1
        refine ⟨_, h1, fun n hn => hw n ?_⟩
        rw [DataW.weights, hu]
        exact DataW.weights_mem_each (j := i) (t := f.type) (d := (ys[i]).1) (by rw [List.getElem?_map, hi]; rfl) (by rw [List.getElem?_map, List.getElem?_eq_getElem h2]; rfl) n hn) (by rw [hcl, ht.2]; simp) (by rw [List.drop_zero]; exact hr) hf
      exact this
    · cases ht
theorem bndL_ok : ∀ (fs : List Ty) (gs : List Field) (off : Nat) (cs : List Value) (xs : List V) {n : Nat}, tyFs P fs gs off = true → byFs P fs (gs.map (·.type)) = true → (∀ (i : Nat) (f : Field), gs[i]? = some f → ∃ x, DataW.trod enc P w base spare held n f.type ((cs.drop f.offset).take (P.cellsOf f.type)) = some x ∧ ∀ n ∈ x.1.weights P f.type, n ≤ reachBytes) → cs.length = off + Ty.sizes fs →
    Reps K0 w (cs.drop off) xs → FitsL fs xs → BndL fs xs
  | [], gs, off, cs, xs, n, ht, hb, h, hl, hr, hf => trivial
  | f :: fs, [], off, cs, xs, n, ht, hb, h, hl, hr, hf => by simp [tyFs] at ht
  | f :: fs, g :: gs, off, cs, xs, n, ht, hb, h, hl, hr, hf => by
    simp only [tyFs, Bool.and_eq_true, beq_iff_eq] at ht
    simp only [List.map_cons, byFs, Bool.and_eq_true] at hb
    obtain ⟨⟨⟨h1, h2⟩, h3⟩, h4⟩ := ht
    obtain ⟨x, hx, hxw⟩ := h 0 g rfl
    rw [h1, h3] at hx
    obtain ⟨a, b, rfl, ha, hb2⟩ := hf
    have hal := fits_len f ha
    have hs : Ty.sizes (f :: fs) = f.size + Ty.sizes fs := rfl
    have hsp : cs.drop off = (cs.drop off).take f.size ++ cs.drop (off + f.size) := by
      rw [← List.drop_drop, List.take_append_drop]
    have hlt : ((cs.drop off).take f.size).length = a.length := by
      rw [hal, List.length_take, List.length_drop, hl, hs]; omega
    rw [hsp] at hr
    obtain ⟨hr1, hr2⟩ := reps_split hlt hr
    refine ⟨?_, ?_⟩
    · rw [List.take_left' hal]
      exact bnd_ok f h2 hb.1 hx hr1 ha hxw
    · rw [List.drop_left' hal]
      exact bndL_ok fs gs (off + f.size) cs b h4 hb.2 (fun i q hi => h (i + 1) q hi) (by rw [hl, hs]; omega) hr2 hb2
end
end Go.Ab
namespace Go.Ab
open Go Go.ChangeShapes Go.WideShapes
set_option linter.unusedVariables false
set_option linter.unusedSimpArgs false
set_option linter.unnecessarySimpa false
variable {H : Type} {enc : TypeId × Value → H} {P : Program} {w : World} {base b0 : Nat} {spare : Nat → Bool} {held : Bool} {r : Reach}
def TAttr : List Ty := [.str, .st TVal]
theorem elt_len {e : Ty} {xs : List (List V)} {ys : List V} (h : xs.map (elt e) = ys) : xs.length = ys.length := by rw [← h]; simp
theorem slice_inj {a b : List V} (h : [V.slice a] = [V.slice b]) : a = b := by simpa using h
theorem bnd_pred {cs : List V} (h : Fits (.st TPred) cs) (hb : Bnd (.st TPred) cs) : ∃ p : Pred, cs = p.cells ∧ p.name.length ≤ reachBytes ∧ p.set.length * 48 ≤ reachBytes := by
  obtain ⟨p, rfl⟩ := fits_pred h
  refine ⟨p, rfl, ?_⟩
  simp only [Bnd, TPred, BndL] at hb
  obtain ⟨⟨s, hs, hsl⟩, _, _, _, ⟨xs, hx, _, hxl, _⟩, _⟩ := hb
  have h1 : s = p.name := by
    have : [V.str p.name] = [V.str s] := hs
    simpa using this.symm
  subst h1
  refine ⟨hsl, ?_⟩
  have h2 : xs.map (elt (.st TVal)) = encVals p.set := by
    have : [V.slice (encVals p.set)] = [V.slice (xs.map (elt (.st TVal)))] := hx
    exact (slice_inj this).symm
  have h3 := elt_len h2
  rw [encVals, List.length_map] at h3
  rw [← h3]
  exact hxl
theorem bnd_preds : ∀ {xs : List (List V)}, (∀ x ∈ xs, Fits (.st TPred) x) → (∀ x ∈ xs, Bnd (.st TPred) x) → ∃ ps : List Pred, xs.map (elt (.st TPred)) = encPreds ps ∧ ∀ p ∈ ps, p.name.length ≤ reachBytes ∧ p.set.length * 48 ≤ reachBytes
  | [], _, _ => ⟨[], rfl, by simp⟩
  | x :: r, h, k => by
    obtain ⟨v, hv, h1, h2⟩ := bnd_pred (h x (by simp)) (k x (by simp))
    obtain ⟨vs, hs, h3⟩ := bnd_preds (xs := r) (fun y hy => h y (by simp [hy])) (fun y hy => k y (by simp [hy]))
    refine ⟨v :: vs, ?_, fun p hp => ?_⟩
    · rw [List.map_cons, hs, hv]; rfl
    · rcases List.mem_cons.1 hp with rfl | hp
      · exact ⟨h1, h2⟩
      · exact h3 p hp
theorem arg_bnd {e : Ty} {t u : TypeId} {v : Value} {d : DataW H} {ps : List MemPlace} (hu : P.underlying t = some (.slice u)) (ht : tyB P (.sl e) t = true) (hbt : byB P (.sl e) t = true) (hval : Value.okWide P w r b0 t v) (h : DataW.Trod enc P w base spare held t v d ps) (hw : ∀ n ∈ d.weights P t, n ≤ reachBytes) :
    ∃ xs : List (List V), Rep K0 w v (.slice (xs.map (elt e))) ∧ (∀ x ∈ xs, Fits e x) ∧ xs.length * e.bytes ≤ reachBytes ∧ ∀ x ∈ xs, Bnd e x := by
  obtain ⟨ys, h1, h2⟩ := arg_any (.sl e) ht h
  obtain ⟨fuel, hf⟩ := h
  have hb := bnd_ok (.sl e) ht hbt hf h1 h2 hw
  obtain ⟨a0, len, cap, rfl⟩ := okWide_slice hu hval
  obtain ⟨xs, rfl, h3, h4, h5⟩ := hb
  refine ⟨xs, ?_, h3, h4, h5⟩
  simp only [Value.cells] at h1
  cases h1 with
  | cons h3 h4 => exact h3
theorem arg_preds {t u : TypeId} {v : Value} {d : DataW H} {ps : List MemPlace} (hu : P.underlying t = some (.slice u)) (ht : tyB P (.sl (.st TPred)) t = true) (hbt : byB P (.sl (.st TPred)) t = true) (hval : Value.okWide P w r b0 t v) (h : DataW.Trod enc P w base spare held t v d ps) (hw : ∀ n ∈ d.weights P t, n ≤ reachBytes) :
    ∃ l : List Pred, Rep K0 w v (.slice (encPreds l)) ∧ l.length < 4611686018427387904 ∧ ∀ p ∈ l, p.name.length < 4611686018427387904 ∧ p.set.length * 48 ≤ 140737488355328 := by
  obtain ⟨xs, h1, h2, h3, h4⟩ := arg_bnd hu ht hbt hval h hw
  obtain ⟨l, hl, h5⟩ := bnd_preds h2 h4
  have h6 := elt_len hl
  rw [encPreds, List.length_map] at h6
  have h7 : (Ty.st TPred).bytes = 144 := rfl
  rw [h7] at h3
  refine ⟨l, hl ▸ h1, ?_, fun p hp => ?_⟩
  · unfold reachBytes at h3; omega
  · have := h5 p hp
    unfold reachBytes at this; omega
theorem fits_attr {cs : List V} (h : Fits (.st TAttr) cs) : ∃ a : Attr, cs = a.cells := by
  obtain ⟨_, _, rfl, ⟨nm, rfl⟩, _, _, rfl, hv, h⟩ := h
  cases h
  obtain ⟨v, rfl⟩ := fits_val hv
  exact ⟨⟨nm, v⟩, rfl⟩
theorem fits_attrs : ∀ {xs : List (List V)}, (∀ x ∈ xs, Fits (.st TAttr) x) → ∃ vs : List Attr, xs.map (elt (.st TAttr)) = encAttrs vs
  | [], _ => ⟨[], rfl⟩
  | x :: r, h => by
    obtain ⟨v, hv⟩ := fits_attr (h x (by simp))
    obtain ⟨vs, hs⟩ := fits_attrs (xs := r) (fun y hy => h y (by simp [hy]))
    refine ⟨v :: vs, ?_⟩
    rw [List.map_cons, hs, hv]; rfl
theorem arg_attrs {t u : TypeId} {v : Value} {d : DataW H} {ps : List MemPlace} (hu : P.underlying t = some (.slice u)) (ht : tyB P (.sl (.st TAttr)) t = true) (hbt : byB P (.sl (.st TAttr)) t = true) (hval : Value.okWide P w r b0 t v) (h : DataW.Trod enc P w base spare held t v d ps) (hw : ∀ n ∈ d.weights P t, n ≤ reachBytes) :
    ∃ l : List Attr, Rep K0 w v (.slice (encAttrs l)) ∧ l.length < 4611686018427387904 := by
  obtain ⟨xs, h1, h2, h3, h4⟩ := arg_bnd hu ht hbt hval h hw
  obtain ⟨l, hl⟩ := fits_attrs h2
  have h6 := elt_len hl
  rw [encAttrs, List.length_map] at h6
  have h7 : (Ty.st TAttr).bytes = 64 := rfl
  rw [h7] at h3
  exact ⟨l, hl ▸ h1, by unfold reachBytes at h3; omega⟩
end Go.Ab
namespace Go.Proofs.Ytclpbfkbpcjejaa
open Go Go.Ab Go.ChangeShapes Go.WideShapes Go.ChangeAt Go.RowKit
set_option linter.unusedVariables false
set_option linter.unusedSimpArgs false
set_option linter.unnecessarySimpa false
set_option maxRecDepth 100000 in
theorem filterTells_lifted (os : Os) (started : os.Started) (H : Type) (enc : TypeId × Value → H) :
    ReturnsInHanded {} Try.checked os 7 .any (Rows.filterTellsSpec.pre6 enc Try.prog Try.f7 Rows.filterTellsRow.domain false) (Rows.filterTellsSpec.post enc Try.prog Try.f7 false true false false) := by
  refine returnsInHanded_of_change_sized (C := Try.checked) Try.own started (by kernel_rfl) Try.func7
    (ChangeSpec.witness6 (enc := enc) (C := Try.checked) false ⟨#[], #[.slice none 0 0, .slice none 0 0, .slice none 0 0], []⟩ 8 (by kernel_rfl) (by kernel_rfl) (by kernel_rfl) (by kernel_rfl)) ?_
  intro W base args ds gs before hval0 hW _ hsz0 _
  have hW' := hW
  obtain ⟨p, q, hA0, hV, rfl, _, _⟩ := hW
  have hA : DataW.TrodAll enc Try.prog W 0 (fun _ => true) true Try.f7.params.toList args.toList ds p := hA0
  have hpar : Try.f7.params = #[49, 50, 28] := by kernel_rfl
  have hval : ∀ (j : Nat) t v, Try.f7.params[j]? = some t → args[j]? = some v → Value.okWide Try.prog W .any base t v := hval0
  rw [hpar] at hA hval
  obtain ⟨l⟩ := args
  obtain ⟨v0, l, d0, ds, p0, r0, rfl, rfl, rfl, h0, hA⟩ := trodAll_cons hA
  obtain ⟨v1, l, d1, ds, p1, r1, rfl, rfl, rfl, h1, hA⟩ := trodAll_cons hA
  obtain ⟨v2, l, d2, ds, p2, r2, rfl, rfl, rfl, h2, hA⟩ := trodAll_cons hA
  obtain ⟨rfl, rfl, rfl⟩ := trodAll_nil hA
  obtain ⟨rfl, rfl⟩ := trodVars_none hV
  obtain ⟨x0, a0, b0, c0⟩ := arg_preds Try.underlying49 (by kernel_rfl) (by kernel_rfl) (hval 0 49 v0 rfl rfl) h0 (fun n hn => of_decide_eq_true (List.all_eq_true.1 hsz0 n (DataW.weights_mem_each (j := 0) (by rw [hpar]; rfl) rfl n hn)))
  obtain ⟨x1, a1, b1⟩ := arg_attrs Try.underlying50 (by kernel_rfl) (by kernel_rfl) (hval 1 50 v1 rfl rfl) h1 (fun n hn => of_decide_eq_true (List.all_eq_true.1 hsz0 n (DataW.weights_mem_each (j := 1) (by rw [hpar]; rfl) rfl n hn)))
  obtain ⟨x2, a2, _⟩ := arg_ints Try.underlying28 Try.underlying3 (by kernel_rfl) (hval 2 28 v2 rfl rfl) h2
  have hlt : ∀ y ∈ p0 ++ (p1 ++ (p2 ++ [])) ++ [], y.block < W.heap.size := fun y hy => hW'.lt y hy
  have hr : Reps K0 W [v0, v1, v2] [.slice (encPreds x0), .slice (encAttrs x1), .slice (intVs x2)] := .cons a0 (.cons a1 (.cons a2 .nil))
  obtain ⟨st', hev⟩ := run7 x0 b0 c0 x1 b1 x2
  obtain ⟨nn, hrun⟩ := EvF_fuel hev
  refine (law_calls (n := nn) (f := 7) (xs := [.slice (encPreds x0), .slice (encAttrs x1), .slice (intVs x2)]) (gS_calls nn) (by rw [hrun]) (W := W) (args := #[v0, v1, v2]) hr).mono ?_
  rintro e W' ⟨rfl, hn⟩
  refine ⟨_, rfl, _, _, _, [], p0 ++ (p1 ++ (p2 ++ [])), [], hW', ?_, ?_, rfl, hn.frame _, fun h => by cases h⟩
  · exact trodAll_mk1 (shut_bool Try.underlying4 true)
  · exact ⟨p0, _, Below.trod Try.laidOut (by kernel_rfl) (of_decide_eq_true (by kernel_rfl)) h0 hn (fun y hy => hlt y (by simp [hy])), ⟨p1, _, Below.trod Try.laidOut (by kernel_rfl) (of_decide_eq_true (by kernel_rfl)) h1 hn (fun y hy => hlt y (by simp [hy])), ⟨p2, _, Below.trod Try.laidOut (by kernel_rfl) (of_decide_eq_true (by kernel_rfl)) h2 hn (fun y hy => hlt y (by simp [hy])), rfl, rfl⟩, rfl⟩, rfl⟩
theorem filterTells_holds : Rows.FilterTellsSaid :=
  OpenClaim.holds_of_wide 7 Try.f7 rfl rfl rfl rfl rfl rfl rfl ⟨rfl, rfl, rfl, rfl, rfl⟩ rfl rfl rfl rfl rfl (by kernel_rfl) Try.func7 (by kernel_rfl)
    (of_decide_eq_true (by kernel_rfl)) (by unfold Func.isWrapper; first | (rw [if_pos (by decide +kernel)]; kernel_rfl) | (rw [if_neg (by decide +kernel)]; exact ⟨rfl, rfl⟩))
    (fun os started H enc _ => filterTells_lifted os started H enc)
#print axioms filterTells_holds
end Go.Proofs.Ytclpbfkbpcjejaa
