/- The law of meeting, with all that it rests on. Part 7. -/
import Derived.Test.YtdoobejjedpcgaaK6
namespace Go.Proofs.Ytdoobejjedpcgaa
open Go Go.Ab
set_option linter.unusedVariables false
set_option linter.unusedSimpArgs false
set_option linter.unnecessarySimpa false
set_option maxRecDepth 20000
noncomputable section
variable (fr : Fr) (st : St) (k : Kt)
def fi101 : FI := { body := codeOf Try.f101, ntmps := 20, results := [.tmp 4], pers := [0, 1, 4, 5], locals := [], pure := false, marks := [7, 18] }
theorem fi203_eq : gS.fn 101 = some fi101 := by kernel_rfl
theorem st101 (a0 a1 : V) : startFr fi101 [a0, a1] = { ps := [(0, .val a0), (1, .val a1), (4, .any), (5, .any)], ts := [], lc := [] } := rfl
def b101 : Code := mini (codeOf Try.f101)
def c101_10 : Code := .cond (.tmp 9) .skip (.exit 0)
def c101_8 : Code := .seq (codeN b101 131) c101_10
def c101_16 : Code := codeN b101 419
def c101_14 : Code := .seq (codeN b101 291) c101_16
def c101_13 : Code := .block 1 c101_14
def c101_7 : Code := .seq c101_8 c101_13
def c101_6 : Code := .loop c101_7
def c101_17 : Code := .seq (codeN b101 23) .ret
def c101_4 : Code := .seq (.block 0 c101_6) c101_17
def c101_2 : Code := .seq (codeN b101 5) c101_4
def c101_0 : Code := .seq (codeN b101 2) c101_2
theorem E101 : evK gS fi101 c101_10 fr st k = condK gS fi101 (fr.op (.tmp 9)).bool? .skip (.exit 0) fr st k ∧
 (evK gS fi101 c101_8 fr st k = opsR gS fi101 [mv 8 1 3,
 op1 9 (.binOp .gtr 3 (.tmp 8) (.const (.int .i64 0)) 3) 4] fr st (.seq c101_10 k)) ∧
 (evK gS fi101 c101_16 fr st k = opsR gS fi101 [mv 15 5 22,
 mv 16 1 3,
 op1 17 (.buildSlice 22 1 #[(0, (.tmp 16))]) 22,
 op1 18 (.call { callee := (.builtin .append), args := #[(.tmp 15), (.tmp 17)], argTypes := #[22, 22] }) 22,
 asn 5 18 22] fr st k) ∧
 (evK gS fi101 c101_14 fr st k = opsR gS fi101 [mv 10 0 22,
 mv 11 1 3,
 op1 12 (.binOp .sub 3 (.tmp 11) (.const (.int .i64 1)) 3) 3,
 ixa 13 22 10 12 0,
 ld 14 3 13 3,
 asn 1 14 3] fr st (.seq c101_16 k)) ∧
 evK gS fi101 c101_13 fr st k = evK gS fi101 c101_14 fr st (.blk 1 k) ∧
 evK gS fi101 c101_7 fr st k = evK gS fi101 c101_8 fr st (.seq c101_13 k) ∧
 (evK gS fi101 c101_17 fr st k = opsR gS fi101 [mv 19 5 22,
 asn 4 19 22] fr st (.seq .ret k)) ∧
 evK gS fi101 c101_4 fr st k = evK gS fi101 c101_6 fr st (.blk 0 (.seq c101_17 k)) ∧
 (evK gS fi101 c101_2 fr st k = opsR gS fi101 [mv 6 1 3,
 op1 7 (.buildSlice 22 1 #[(0, (.tmp 6))]) 22,
 asn 5 7 22] fr st (.seq c101_4 k)) ∧
 evK gS fi101 c101_0 fr st k = opsR gS fi101 [op1 4 (.assign (.const (.slice none 0 0))) 22] fr st (.seq c101_2 k) := ⟨rfl, evK_rs 2 rfl (by kernel_rfl), evK_r 4 (by kernel_rfl), evK_rs 3 rfl (by kernel_rfl), rfl, rfl, evK_rs 5 rfl (by kernel_rfl), rfl, evK_rs 1 rfl (by kernel_rfl), evK_rs 0 rfl (by kernel_rfl)⟩
theorem m101 : mini fi101.body = c101_0 := by kernel_rfl
theorem n101_6 (fr : Fr) (st : St) (k : Kt) : nextK gS fi101 (.loop c101_7 k) .normal fr st = evK gS fi101 c101_6 fr st k := rfl
set_option maxHeartbeats 8000000 in
theorem L101 (p : List Int) (hp : upT 0 p = true) (hl7 : p.length ≤ 7) : ∀ (k b : Nat) (acc : List Int) (S : St) (id : Nat) (T : List (Nat × E)) (X : List (Nat × List V)), b ≤ k → b ≤ p.length → acc.length + k ≤ 100 → 0 < acc.length → S.wp ≤ id → id < S.objs.length → St.obj S id = some (intVs acc) →
    evK gS fi101 c101_6 { ps := [(0, .val (.slice (intVs p))), (1, .val (.int .i64 (b : Nat))), (4, .own 0 []), (5, .val (.sref false 1 id 0 acc.length))], ts := T, lc := X } S (.blk 0 (.seq c101_17 .nil)) = some (.ret (.sref false 1 (apAll (upF p k b) S id acc).2 0 (acc ++ upF p k b).length) none, (apAll (upF p k b) S id acc).1) := by
  intro k
  have hm : fi101.marks = [7, 18] := rfl
  have hl : fi101.locals = [] := rfl
  have hr : fi101.results = [.tmp 4] := rfl
  have hend : ∀ (acc : List Int) (S : St) (id : Nat) (T : List (Nat × E)) (X : List (Nat × List V)), evK gS fi101 c101_6 { ps := [(0, .val (.slice (intVs p))), (1, .val (.int .i64 0)), (4, .own 0 []), (5, .val (.sref false 1 id 0 acc.length))], ts := T, lc := X } S (.blk 0 (.seq c101_17 .nil)) = some (.ret (.sref false 1 id 0 acc.length) none, S) := by
    intro acc S id T X
    refine evK_loop c101_7 _ _ _ _ rfl ?_
    simp [-Int.not_le, -Int.not_lt, -Nat.not_le, -Nat.not_lt, ty3, ty4, ty22, hm, hl, hr, E101, n101_6]
  induction k with
  | zero =>
    intro b acc S id T X hb hb2 ha h0 hw hi ho
    obtain rfl : b = 0 := by omega
    rw [upF_zero, List.append_nil]
    exact hend acc S id T X
  | succ k ih =>
    intro b acc S id T X hb hb2 ha h0 hwp hi ho
    cases b with
    | zero => rw [upF_zero, List.append_nil]; exact hend acc S id T X
    | succ b =>
      obtain ⟨x, hx⟩ : ∃ x, p[b]? = some x := ⟨p[b]'(by omega), List.getElem?_eq_getElem (by omega)⟩
      obtain ⟨hlt2, hxe⟩ := List.getElem?_eq_some_iff.1 hx
      obtain ⟨h1, h2⟩ := upT_get p 0 b x hp hx
      obtain ⟨y, rfl⟩ : ∃ y : Nat, x = (y : Int) := ⟨x.toNat, by omega⟩
      rw [upF_succ p k b _ hx]
      have IH := fun T X => ih y (acc ++ [(y : Int)]) (apS S id (intVs (acc ++ [(y : Int)]))) S.objs.length T X (by omega) (by omega) (by simp; omega) (by simp) (by rw [apS_wp]; omega) (by rw [apS_len]; omega) (apS_new _ _ _)
      simp only [Int.toNat_natCast]
      rw [show apAll ((y : Int) :: upF p k y) S id acc = apAll (upF p k y) (apS S id (intVs (acc ++ [(y : Int)]))) S.objs.length (acc ++ [(y : Int)]) from rfl, List.append_cons acc (y : Int) (upF p k y)]
      rw [show (acc ++ [(y : Int)]).length = acc.length + 1 from by simp] at IH
      generalize apAll (upF p k y) (apS S id (intVs (acc ++ [(y : Int)]))) S.objs.length (acc ++ [(y : Int)]) = Q at IH ⊢
      generalize (acc ++ [(y : Int)] ++ upF p k y).length = L at IH ⊢
      have hw : IntKind.wrap .i64 (((b + 1 : Nat) : Int) - 1) = (b : Int) := by rw [wrap64 (by omega) (by omega)]; omega
      have hpos : (0 : Int) < ((b + 1 : Nat) : Int) := by omega
      have hs1 := ints_strip acc
      have hs2 := ints_one acc
      have hs3 := ints_snoc acc (y : Int)
      have hs4 := set_some hwp []
      have hs5 := newRef_ap S id
      have b1 : (acc.length + 1) * 8 ≤ 140737488355328 := by omega
      have b2 : acc.length + 1 ≤ 140737488355328 := by omega
      have b3 : ¬ acc.length = 0 := by omega
      refine evK_loop c101_7 _ _ _ _ rfl ?_
      simp [-St.obj, -St.set, -Int.natCast_add, -List.append_assoc, hw, hpos, hx, hxe, hlt2, ho, h0, hs1, hs2, hs3, hs4, hs5, b1, b2, b3, IH, markStep, markAppend, elemsAt, -Int.not_le, -Int.not_lt, -Nat.not_le, -Nat.not_lt, ty3, ty4, ty22, hm, hl, hr, E101, n101_6]
set_option maxHeartbeats 8000000 in
theorem c101 (p : List Int) (hp : upT 0 p = true) (hl7 : p.length ≤ 7) (b : Nat) (hb : b ≤ p.length) (S : St) (hS : S.wp ≤ S.objs.length) : EvF gS 101 [.slice (intVs p), .int .i64 (b : Nat)] S = some (.ret (.sref false 1 (upS p b S).2 0 (upP p b).length) none, (upS p b S).1) := by
  refine EvF_start fi203_eq (fun x h => by cases h) m101 ?_
  rw [st101]
  have hm : fi101.marks = [7, 18] := rfl
  have hl : fi101.locals = [] := rfl
  have hr : fi101.results = [.tmp 4] := rfl
  have LL := fun T X => L101 p hp hl7 b b [(b : Int)] (nw S 0 (intVs [(b : Int)])) S.objs.length T X (Nat.le_refl _) hb (by simp; omega) (by simp) hS (by simp [nw]) (nw_obj0 _ _)
  rw [show apAll (upF p b b) (nw S 0 (intVs [(b : Int)])) S.objs.length [(b : Int)] = upS p b S from rfl, show [(b : Int)] ++ upF p b b = upP p b from rfl, show [(b : Int)].length = 1 from rfl, show intVs [(b : Int)] = [.int .i64 (b : Int)] from rfl] at LL
  have hn := newRef_nw S
  simp [-St.obj, -St.set, -Int.natCast_add, LL, hn, markStep, -Int.not_le, -Int.not_lt, -Nat.not_le, -Nat.not_lt, ty3, ty4, ty22, hm, hl, hr, E101, n101_6]
theorem k101 (p : List Int) (hp : upT 0 p = true) (hl7 : p.length ≤ 7) (b : Nat) (hb : b ≤ p.length) (fr : Fr) (S : St) (hS : S.wp ≤ S.objs.length) : callStep gS (EvF gS) 101 [.slice (intVs p), .int .i64 (b : Nat)] fr S = some (.ok (.val (.sref false 1 (upS p b S).2 0 (upP p b).length)) (fr.map E.noMem) (upS p b S).1) := by
  unfold callStep
  simp only [show gS.ext 101 = none from rfl, fi203_eq, show fi101.pure = false from rfl, Bool.false_eq_true, if_false, c101 p hp hl7 b hb S hS, retE]
def fi79 : FI := { body := codeOf Try.f79, ntmps := 64, results := [.tmp 6], pers := [0, 1, 2, 6, 7, 8, 9], locals := [], pure := true, marks := [62, 1000000] }
theorem fi204_eq : gS.fn 79 = some fi79 := by kernel_rfl
theorem st79 (a0 a1 a2 : V) : startFr fi79 [a0, a1, a2] = { ps := [(0, .val a0), (1, .val a1), (2, .val a2), (6, .any), (7, .any), (8, .any), (9, .any)], ts := [], lc := [] } := rfl
def b79 : Code := mini (codeOf Try.f79)
def r79_9 : Array Oper := regOps (codeN (codeOf Try.f79) 131)
def c79_9 : Code := .region 2 r79_9 true
def q79_9 : List (Oper × Fl) := [(mv 16 7 22, ⟨true, false, true, false, false, false, true, true, false, false, []⟩),
 (len1 17 16 22 3, ⟨true, true, true, false, true, false, true, true, false, false, []⟩),
 (op1 18 (.binOp .gtr 3 (.tmp 17) (.const (.int .i64 1)) 3) 4, ⟨true, true, true, false, true, false, true, true, false, false, []⟩),
 (mv 19 18 4, ⟨true, true, true, false, true, false, true, true, false, false, []⟩),
 (mk (some 20) (.move (.tmp 8)) 22 (some (3, true)), ⟨true, false, true, false, false, false, true, true, false, false, []⟩),
 (mk (some 21) (.call { callee := (.builtin .len), args := #[(.tmp 20)], argTypes := #[22] }) 3 (some (3, true)), ⟨true, true, true, false, true, false, true, true, false, false, []⟩),
 (mk (some 22) (.binOp .gtr 3 (.tmp 21) (.const (.int .i64 1)) 3) 4 (some (3, true)), ⟨true, true, true, false, true, false, true, true, false, false, []⟩),
 (op1 23 (.pick (.tmp 19) (.tmp 22) (.const (.bool false))) 4, ⟨true, true, true, false, true, false, true, true, false, false, []⟩),
 (mv 24 23 4, ⟨true, true, true, false, true, false, true, true, false, false, []⟩),
 (mk (some 25) (.move (.tmp 7)) 22 (some (8, true)), ⟨true, false, true, false, false, false, true, true, false, false, []⟩),
 (mk (some 26) (.move (.tmp 7)) 22 (some (8, true)), ⟨true, false, true, false, false, false, true, true, false, false, []⟩),
 (mk (some 27) (.call { callee := (.builtin .len), args := #[(.tmp 26)], argTypes := #[22] }) 3 (some (8, true)), ⟨true, false, true, false, false, false, true, true, false, false, []⟩),
 (mk (some 28) (.binOp .sub 3 (.tmp 27) (.const (.int .i64 2)) 3) 3 (some (8, true)), ⟨true, false, true, false, false, false, true, true, false, false, []⟩),
 (mk (some 29) (.indexAddr 22 (.tmp 25) (.tmp 28)) 0 (some (8, true)), ⟨true, false, true, false, false, false, true, true, false, false, []⟩),
 (mk (some 30) (.load 3 (.tmp 29)) 3 (some (8, true)), ⟨true, false, true, false, false, false, true, true, false, false, []⟩),
 (mk (some 31) (.move (.tmp 8)) 22 (some (8, true)), ⟨true, false, true, false, false, false, true, true, false, false, []⟩),
 (mk (some 32) (.move (.tmp 8)) 22 (some (8, true)), ⟨true, false, true, false, false, false, true, true, false, false, []⟩),
 (mk (some 33) (.call { callee := (.builtin .len), args := #[(.tmp 32)], argTypes := #[22] }) 3 (some (8, true)), ⟨true, false, true, false, false, false, true, true, false, false, []⟩),
 (mk (some 34) (.binOp .sub 3 (.tmp 33) (.const (.int .i64 2)) 3) 3 (some (8, true)), ⟨true, false, true, false, true, false, true, true, false, false, []⟩),
 (mk (some 35) (.indexAddr 22 (.tmp 31) (.tmp 34)) 0 (some (8, true)), ⟨true, false, true, false, true, false, true, true, false, false, []⟩),
 (mk (some 36) (.load 3 (.tmp 35)) 3 (some (8, true)), ⟨true, false, true, false, true, false, true, true, false, false, []⟩),
 (mk (some 37) (.binOp .eql 3 (.tmp 30) (.tmp 36) 3) 4 (some (8, true)), ⟨true, false, true, false, true, false, true, true, false, false, []⟩),
 (op1 38 (.pick (.tmp 24) (.tmp 37) (.const (.bool false))) 4, ⟨true, false, true, false, true, false, true, true, false, false, []⟩)]
def c79_10 : Code := .cond (.tmp 38) .skip (.exit 0)
def c79_8 : Code := .seq c79_9 c79_10
def r79_14 : Array Oper := regOps (codeN (codeOf Try.f79) 163)
def c79_14 : Code := .region 3 r79_14 true
def q79_14 : List (Oper × Fl) := [(mv 39 7 22, ⟨true, false, true, false, false, false, true, true, false, false, []⟩),
 (mv 40 7 22, ⟨true, false, true, false, false, false, true, true, false, false, []⟩),
 (len1 41 40 22 3, ⟨true, false, true, false, false, false, true, true, false, false, []⟩),
 (op1 42 (.binOp .sub 3 (.tmp 41) (.const (.int .i64 1)) 3) 3, ⟨true, false, true, false, false, false, true, true, false, false, []⟩),
 (op1 43 (.slice 22 (.tmp 39) none (some (.tmp 42)) none) 22, ⟨true, false, true, false, false, false, true, true, false, false, []⟩),
 (mv 44 8 22, ⟨true, false, true, false, false, false, true, true, false, false, []⟩),
 (mv 45 8 22, ⟨true, false, true, false, false, false, true, true, false, false, []⟩),
 (len1 46 45 22 3, ⟨true, false, true, false, false, false, true, true, false, false, []⟩),
 (op1 47 (.binOp .sub 3 (.tmp 46) (.const (.int .i64 1)) 3) 3, ⟨true, false, true, false, false, false, true, true, false, false, []⟩),
 (op1 48 (.slice 22 (.tmp 44) none (some (.tmp 47)) none) 22, ⟨true, false, true, false, false, false, true, true, false, false, []⟩),
 (asn 7 43 22, ⟨true, false, true, false, true, false, true, true, false, false, []⟩),
 (asn 8 48 22, ⟨true, true, true, false, true, false, true, true, false, false, []⟩)]
def c79_13 : Code := .block 1 c79_14
def c79_7 : Code := .seq c79_8 c79_13
def c79_6 : Code := .loop c79_7
def c79_23 : Code := .cond (.tmp 53) .skip (.exit 2)
def c79_21 : Code := .seq (codeN b79 535) c79_23
def c79_28 : Code := codeN b79 1175
def c79_29 : Code := codeN b79 919
def c79_26 : Code := .seq (.block 3 c79_28) c79_29
def c79_20 : Code := .seq c79_21 c79_26
def c79_19 : Code := .loop c79_20
def c79_18 : Code := .block 2 c79_19
def c79_16 : Code := .seq (codeN b79 39) c79_18
def c79_30 : Code := .seq (codeN b79 47) .ret
def c79_15 : Code := .seq c79_16 c79_30
theorem e79_15 : evK gS fi79 c79_15 fr st k = evK gS fi79 c79_16 fr st (.seq c79_30 k) := rfl
def c79_4 : Code := .seq (.block 0 c79_6) c79_15
def c79_2 : Code := .seq (codeN b79 5) c79_4
def c79_0 : Code := .seq (codeN b79 2) c79_2
theorem E79 : evK gS fi79 c79_9 fr st k = drwR gS fi79 r79_9 q79_9 fr st k ∧
 evK gS fi79 c79_10 fr st k = condK gS fi79 (fr.op (.tmp 38)).bool? .skip (.exit 0) fr st k ∧
 evK gS fi79 c79_8 fr st k = evK gS fi79 c79_9 fr st (.seq c79_10 k) ∧
 evK gS fi79 c79_14 fr st k = drwR gS fi79 r79_14 q79_14 fr st k ∧
 evK gS fi79 c79_13 fr st k = evK gS fi79 c79_14 fr st (.blk 1 k) ∧
 evK gS fi79 c79_7 fr st k = evK gS fi79 c79_8 fr st (.seq c79_13 k) ∧
 evK gS fi79 c79_23 fr st k = condK gS fi79 (fr.op (.tmp 53)).bool? .skip (.exit 2) fr st k ∧
 (evK gS fi79 c79_21 fr st k = opsR gS fi79 [mv 52 9 3,
 op1 53 (.binOp .geq 3 (.tmp 52) (.const (.int .i64 0)) 3) 4] fr st (.seq c79_23 k)) ∧
 (evK gS fi79 c79_28 fr st k = opsR gS fi79 [mv 56 7 22,
 mv 57 8 22,
 mv 58 9 3,
 ixa 59 22 57 58 0,
 ld 60 3 59 3,
 op1 61 (.buildSlice 22 1 #[(0, (.tmp 60))]) 22,
 op1 62 (.call { callee := (.builtin .append), args := #[(.tmp 56), (.tmp 61)], argTypes := #[22, 22] }) 22,
 asn 7 62 22] fr st k) ∧
 (evK gS fi79 c79_29 fr st k = opsR gS fi79 [mv 54 9 3,
 op1 55 (.binOp .sub 3 (.tmp 54) (.const (.int .i64 1)) 3) 3,
 asn 9 55 3] fr st k) ∧
 evK gS fi79 c79_26 fr st k = evK gS fi79 c79_28 fr st (.blk 3 (.seq c79_29 k)) ∧
 evK gS fi79 c79_20 fr st k = evK gS fi79 c79_21 fr st (.seq c79_26 k) ∧
 evK gS fi79 c79_18 fr st k = evK gS fi79 c79_19 fr st (.blk 2 k) ∧
 (evK gS fi79 c79_16 fr st k = opsR gS fi79 [mv 49 8 22,
 len1 50 49 22 3,
 op1 51 (.binOp .sub 3 (.tmp 50) (.const (.int .i64 2)) 3) 3,
 asn 9 51 3] fr st (.seq c79_18 k)) ∧
 (evK gS fi79 c79_30 fr st k = opsR gS fi79 [mv 63 7 22,
 asn 6 63 22] fr st (.seq .ret k)) ∧
 evK gS fi79 c79_4 fr st k = evK gS fi79 c79_6 fr st (.blk 0 (.seq c79_15 k)) ∧
 (evK gS fi79 c79_2 fr st k = opsR gS fi79 [mv 10 0 22,
 mv 11 1 3,
 cal 12 101 [(.tmp 10), (.tmp 11)] [22, 3] 22,
 mv 13 0 22,
 mv 14 2 3,
 cal 15 101 [(.tmp 13), (.tmp 14)] [22, 3] 22,
 asn 7 12 22,
 asn 8 15 22] fr st (.seq c79_4 k)) ∧
 evK gS fi79 c79_0 fr st k = opsR gS fi79 [op1 6 (.assign (.const (.slice none 0 0))) 22] fr st (.seq c79_2 k) := ⟨evK_dr 2 rfl (by kernel_rfl) (by kernel_rfl), rfl, rfl, evK_dr 3 rfl (by kernel_rfl) (by kernel_rfl), rfl, rfl, rfl, evK_rs 5 rfl (by kernel_rfl), evK_r 7 (by kernel_rfl), evK_r 6 (by kernel_rfl), rfl, rfl, rfl, evK_rs 4 rfl (by kernel_rfl), evK_rs 8 rfl (by kernel_rfl), rfl, evK_rs 1 rfl (by kernel_rfl), evK_rs 0 rfl (by kernel_rfl)⟩
theorem m79 : mini fi79.body = c79_0 := by kernel_rfl
theorem n79_6 (fr : Fr) (st : St) (k : Kt) : nextK gS fi79 (.loop c79_7 k) .normal fr st = evK gS fi79 c79_6 fr st k := rfl
theorem n79_19 (fr : Fr) (st : St) (k : Kt) : nextK gS fi79 (.loop c79_20 k) .normal fr st = evK gS fi79 c79_19 fr st k := rfl
set_option maxHeartbeats 8000000 in
theorem L79_6 (A B : List Int) (S : St) (ida idb : Nat) (hA : St.obj S ida = some (intVs A)) (hB : St.obj S idb = some (intVs B)) (hA1 : A.length < 1000) (hB1 : B.length < 1000) (R : Out × St) (e0 e1 e2 : E) (t0 : e0.Tame) (t1 : e1.Tame) (t2 : e2.Tame) (X : List (Nat × List V)) : ∀ (k a b : Nat) (T : List (Nat × E))
    (H : ∀ T, evK gS fi79 c79_15 { ps := [(0, e0), (1, e1), (2, e2), (6, .own 0 []), (7, .val (.sref false 1 ida 0 (trimN A B k a b).1)), (8, .val (.sref false 1 idb 0 (trimN A B k a b).2)), (9, .any)], ts := T, lc := X } S .nil = some R), a ≤ k + 1 → a ≤ A.length → b ≤ B.length → evK gS fi79 c79_6 { ps := [(0, e0), (1, e1), (2, e2), (6, .own 0 []), (7, .val (.sref false 1 ida 0 a)), (8, .val (.sref false 1 idb 0 b)), (9, .any)], ts := T, lc := X } S (.blk 0 (.seq c79_15 .nil)) = some R := by
  intro k
  have hm : fi79.marks = [62, 1000000] := rfl
  have hl : fi79.locals = [] := rfl
  have hr : fi79.results = [.tmp 6] := rfl
  have hno : ∀ (a b : Nat) (T : List (Nat × E)) (H : ∀ T, evK gS fi79 c79_15 { ps := [(0, e0), (1, e1), (2, e2), (6, .own 0 []), (7, .val (.sref false 1 ida 0 a)), (8, .val (.sref false 1 idb 0 b)), (9, .any)], ts := T, lc := X } S .nil = some R), a ≤ A.length → b ≤ B.length → ¬ (1 < a ∧ 1 < b ∧ A[a - 2]? = B[b - 2]?) →
      evK gS fi79 c79_6 { ps := [(0, e0), (1, e1), (2, e2), (6, .own 0 []), (7, .val (.sref false 1 ida 0 a)), (8, .val (.sref false 1 idb 0 b)), (9, .any)], ts := T, lc := X } S (.blk 0 (.seq c79_15 .nil)) = some R := by
    intro a b T H ha hb hc
    refine evK_loop c79_7 _ _ _ _ rfl ?_
    by_cases c1 : 1 < a
    · have d1 : (1 : Int) < (a : Int) := by omega
      have w1 : IntKind.wrap .i64 ((a : Int) - 2) = ((a - 2 : Nat) : Int) := by rw [wrap64 (by omega) (by omega)]; omega
      obtain ⟨x, hx⟩ : ∃ x, A[a - 2]? = some x := ⟨A[a - 2]'(by omega), List.getElem?_eq_getElem (by omega)⟩
      obtain ⟨x1, x2⟩ := List.getElem?_eq_some_iff.1 hx
      have x3 : ((a - 2 : Nat) : Int) < (a : Int) := by omega
      have x4 : a - 2 < a := by omega
      by_cases c2 : 1 < b
      · have d2 : (1 : Int) < (b : Int) := by omega
        have w2 : IntKind.wrap .i64 ((b : Int) - 2) = ((b - 2 : Nat) : Int) := by rw [wrap64 (by omega) (by omega)]; omega
        obtain ⟨y, hy⟩ : ∃ y, B[b - 2]? = some y := ⟨B[b - 2]'(by omega), List.getElem?_eq_getElem (by omega)⟩
        obtain ⟨y1, y2⟩ := List.getElem?_eq_some_iff.1 hy
        have y3 : ((b - 2 : Nat) : Int) < (b : Int) := by omega
        have y4 : b - 2 < b := by omega
        have hne : ¬ x = y := fun e => hc ⟨c1, c2, by rw [hx, hy, e]⟩
        generalize a - 2 = p at *
        generalize b - 2 = q at *
        simp [-St.obj, -St.set, -Int.natCast_add, hA, hB, c1, c2, d1, d2, w1, w2, x1, x2, x3, x4, y1, y2, y3, y4, hx, hy, hne, t0, t1, t2, H, -Int.not_le, -Int.not_lt, -Nat.not_le, -Nat.not_lt, ty3, ty4, ty22, hm, hl, hr, fi203_eq, E79, q79_9, q79_14, n79_6, n79_19]
      · have d2 : ¬ (1 : Int) < (b : Int) := by omega
        simp [-St.obj, -St.set, -Int.natCast_add, hA, hB, c1, c2, d1, d2, t0, t1, t2, H, -Int.not_le, -Int.not_lt, -Nat.not_le, -Nat.not_lt, ty3, ty4, ty22, hm, hl, hr, fi203_eq, E79, q79_9, q79_14, n79_6, n79_19]
    · have d1 : ¬ (1 : Int) < (a : Int) := by omega
      simp [-St.obj, -St.set, -Int.natCast_add, c1, d1, t0, t1, t2, H, -Int.not_le, -Int.not_lt, -Nat.not_le, -Nat.not_lt, ty3, ty4, ty22, hm, hl, hr, fi203_eq, E79, q79_9, q79_14, n79_6, n79_19]
  induction k with
  | zero =>
    intro a b T H hk ha hb
    exact hno a b T H ha hb (by omega)
  | succ k ih =>
    intro a b T H hk ha hb
    unfold trimN at H
    by_cases hc : 1 < a ∧ 1 < b ∧ A[a - 2]? = B[b - 2]?
    · rw [if_pos hc] at H
      obtain ⟨c1, c2, c3⟩ := hc
      have IH := fun T => ih (a - 1) (b - 1) T H (by omega) (by omega) (by omega)
      have d1 : (1 : Int) < (a : Int) := by omega
      have w1 : IntKind.wrap .i64 ((a : Int) - 2) = ((a - 2 : Nat) : Int) := by rw [wrap64 (by omega) (by omega)]; omega
      have v1 : IntKind.wrap .i64 ((a : Int) - 1) = ((a - 1 : Nat) : Int) := by rw [wrap64 (by omega) (by omega)]; omega
      obtain ⟨x, hx⟩ : ∃ x, A[a - 2]? = some x := ⟨A[a - 2]'(by omega), List.getElem?_eq_getElem (by omega)⟩
      obtain ⟨x1, x2⟩ := List.getElem?_eq_some_iff.1 hx
      have x3 : ((a - 2 : Nat) : Int) < (a : Int) := by omega
      have x4 : a - 2 < a := by omega
      have d2 : (1 : Int) < (b : Int) := by omega
      have w2 : IntKind.wrap .i64 ((b : Int) - 2) = ((b - 2 : Nat) : Int) := by rw [wrap64 (by omega) (by omega)]; omega
      have v2 : IntKind.wrap .i64 ((b : Int) - 1) = ((b - 1 : Nat) : Int) := by rw [wrap64 (by omega) (by omega)]; omega
      have hy : B[b - 2]? = some x := by rw [← c3]; exact hx
      obtain ⟨y1, y2⟩ := List.getElem?_eq_some_iff.1 hy
      have y3 : ((b - 2 : Nat) : Int) < (b : Int) := by omega
      have y4 : b - 2 < b := by omega
      have g1 : ((a - 1 : Nat) : Int) ≤ (a : Int) := by omega
      have g2 : ((b - 1 : Nat) : Int) ≤ (b : Int) := by omega
      have i1 : a - 1 ≤ a := by omega
      have i2 : b - 1 ≤ b := by omega
      have n1 : ¬ 0 = a - 1 := by omega
      have n2 : ¬ 0 = b - 1 := by omega
      have n3 : ¬ a - 1 = 0 := by omega
      have n4 : ¬ b - 1 = 0 := by omega
      refine evK_loop c79_7 _ _ _ _ rfl ?_
      generalize a - 2 = p at *
      generalize b - 2 = q at *
      generalize a - 1 = p1 at *
      generalize b - 1 = q1 at *
      simp [-St.obj, -St.set, -Int.natCast_add, hA, hB, c1, c2, d1, d2, w1, w2, v1, v2, x1, x2, x3, x4, y1, y2, y3, y4, hx, hy, g1, g2, i1, i2, n1, n2, n3, n4, t0, t1, t2, IH, -Int.not_le, -Int.not_lt, -Nat.not_le, -Nat.not_lt, ty3, ty4, ty22, hm, hl, hr, fi203_eq, E79, q79_9, q79_14, n79_6, n79_19]
    · rw [if_neg hc] at H
      exact hno a b T H ha hb hc
set_option maxHeartbeats 8000000 in
theorem L79_19 (B : List Int) (b idb : Nat) (hb : b ≤ B.length) (hB1 : B.length < 1000) (e0 e1 e2 : E) (t0 : e0.Tame) (t1 : e1.Tame) (t2 : e2.Tame) (X : List (Nat × List V)) : ∀ (n : Nat) (acc C : List Int) (S : St) (ida : Nat) (T : List (Nat × E)), n ≤ b → 0 < acc.length → acc.length + n < 100000 →
    St.obj S ida = some (intVs C) → acc.length ≤ C.length → C.take acc.length = acc → S.wp ≤ ida → ida < S.objs.length → St.obj S idb = some (intVs B) → idb < S.objs.length → ida ≠ idb →
    evK gS fi79 c79_19 { ps := [(0, e0), (1, e1), (2, e2), (6, .own 0 []), (7, .val (.sref false 1 ida 0 acc.length)), (8, .val (.sref false 1 idb 0 b)), (9, .val (.int .i64 (((n : Nat) : Int) - 1)))], ts := T, lc := X } S (.blk 2 (.seq c79_30 .nil)) = some (.ret (.slice (intVs (acc ++ (B.take n).reverse))) none, finS (B.take n).reverse S ida acc) := by
  intro n
  have hm : fi79.marks = [62, 1000000] := rfl
  have hl : fi79.locals = [] := rfl
  have hr : fi79.results = [.tmp 6] := rfl
  induction n with
  | zero =>
    intro acc C S ida T hn h0 ha hA hl hC hw hi hB hib hne
    rw [show (((0 : Nat) : Int) - 1) = -1 from rfl, List.take_zero, List.reverse_nil, List.append_nil]
    have hz := frz_ref hA hw h0 hl
    rw [hC] at hz
    rw [show finS [] S ida acc = { objs := S.objs.set ida [], wp := S.wp } from rfl]
    refine evK_loop c79_20 _ _ _ _ rfl ?_
    simp [-St.obj, -St.set, hz, t0, t1, t2, -Int.not_le, -Int.not_lt, -Nat.not_le, -Nat.not_lt, ty3, ty4, ty22, hm, hl, hr, fi203_eq, E79, q79_9, q79_14, e79_15, n79_6, n79_19]
  | succ n ih =>
    intro acc C S ida T hn h0 ha hA hl hC hwp hi hB hib hne
    rw [show (((n + 1 : Nat) : Int) - 1) = (n : Int) from by omega]
    obtain ⟨x, hx⟩ : ∃ x, B[n]? = some x := ⟨B[n]'(by omega), List.getElem?_eq_getElem (by omega)⟩
    obtain ⟨x1, x2⟩ := List.getElem?_eq_some_iff.1 hx
    have x3 : (n : Int) < (b : Int) := by omega
    have x4 : n < b := by omega
    rw [take_rev B n x hx]
    rw [show finS (x :: (B.take n).reverse) S ida acc = finS (B.take n).reverse (apS S ida (intVs (acc ++ [x]))) S.objs.length (acc ++ [x]) from rfl, List.append_cons acc x (B.take n).reverse]
    have IH := fun T => ih (acc ++ [x]) (acc ++ [x]) (apS S ida (intVs (acc ++ [x]))) S.objs.length T (by omega) (by simp) (by simp; omega) (apS_new _ _ _) (Nat.le_refl _) (List.take_length) (by rw [apS_wp]; omega) (by rw [apS_len]; omega) (by rw [apS_old _ _ _ (Ne.symm hne) hib]; exact hB) (by rw [apS_len]; omega) (by omega)
    rw [show (acc ++ [x]).length = acc.length + 1 from by simp] at IH
    generalize finS (B.take n).reverse (apS S ida (intVs (acc ++ [x]))) S.objs.length (acc ++ [x]) = Q at IH ⊢
    generalize intVs (acc ++ [x] ++ (B.take n).reverse) = L at IH ⊢
    have hw : IntKind.wrap .i64 ((n : Int) - 1) = (n : Int) - 1 := by rw [wrap64 (by omega) (by omega)]
    have hge : (0 : Int) ≤ (n : Int) := by omega
    have hs1 := ints_strip acc
    have hs2 := ints_one acc
    have hs3 := ints_snoc acc x
    have hs4 := set_some hwp []
    have hs5 := newRef_ap S ida
    have b1 : (acc.length + 1) * 8 ≤ 140737488355328 := by omega
    have b2 : acc.length + 1 ≤ 140737488355328 := by omega
    have b3 : ¬ acc.length = 0 := by omega
    refine evK_loop c79_20 _ _ _ _ rfl ?_
    rcases Nat.lt_or_ge acc.length C.length with hlc | hlc
    · have hC2 : (intVs C).take acc.length = intVs acc := by rw [ints_take, hC]
      have hlc2 : ¬ C.length = acc.length := by omega
      simp [-St.obj, -St.set, -Int.natCast_add, -List.append_assoc, hw, hge, hx, x1, x2, x3, x4, hA, hB, h0, hs1, hs2, hs3, hs4, hs5, b1, b2, b3, hC2, hlc, hlc2, t0, t1, t2, IH, markStep, markAppend, elemsAt, -Int.not_le, -Int.not_lt, -Nat.not_le, -Nat.not_lt, ty3, ty4, ty22, hm, hl, hr, fi203_eq, E79, q79_9, q79_14, e79_15, n79_6, n79_19]
    · obtain rfl : C = acc := by rw [List.take_of_length_le hlc] at hC; exact hC
      simp [-St.obj, -St.set, -Int.natCast_add, -List.append_assoc, hw, hge, hx, x1, x2, x3, x4, hA, hB, h0, hs1, hs2, hs3, hs4, hs5, b1, b2, b3, t0, t1, t2, IH, markStep, markAppend, elemsAt, -Int.not_le, -Int.not_lt, -Nat.not_le, -Nat.not_lt, ty3, ty4, ty22, hm, hl, hr, fi203_eq, E79, q79_9, q79_14, e79_15, n79_6, n79_19]
set_option maxHeartbeats 8000000 in
theorem c79 (p : List Int) (hp : upT 0 p = true) (hl7 : p.length ≤ 7) (a b : Nat) (ha : a ≤ p.length) (hb : b ≤ p.length) (S : St) (hS : S.wp ≤ S.objs.length) : ∃ st', EvF gS 79 [.slice (intVs p), .int .i64 (a : Nat), .int .i64 (b : Nat)] S = some (.ret (.slice (intVs (pathT p a b))) none, st') := by
  have hm : fi79.marks = [62, 1000000] := rfl
  have hl : fi79.locals = [] := rfl
  have hr : fi79.results = [.tmp 6] := rfl
  obtain ⟨f1, f2, f3, f4, f5, f6⟩ := upS_facts p a S hS
  have k1 := fun fr => k101 p hp hl7 a ha fr S hS
  have hS1 : (upS p a S).1.wp ≤ (upS p a S).1.objs.length := by omega
  obtain ⟨g1, g2, g3, g4, g5, g6⟩ := upS_facts p b (upS p a S).1 hS1
  have k2 := fun fr => k101 p hp hl7 b hb fr (upS p a S).1 hS1
  have la := upP_len p a
  have lb := upP_len p b
  have f1' := (g6 _ f4).trans f1
  unfold pathT
  generalize upP p a = A at *
  generalize upP p b = B at *
  generalize upS p b (upS p a S).1 = Q2 at *
  generalize upS p a S = Q1 at *
  obtain ⟨S1, ida⟩ := Q1
  obtain ⟨S2, idb⟩ := Q2
  simp only at *
  have ht := trimN_le A B 100 A.length B.length la.1 lb.1
  have hw1 : S2.wp ≤ ida := by omega
  have hne : ida ≠ idb := by omega
  have hl2 : ida < S2.objs.length := by omega
  refine ⟨finS (B.take ((trimN A B 100 A.length B.length).2 - 1)).reverse S2 ida (A.take (trimN A B 100 A.length B.length).1), ?_⟩
  refine EvF_start fi204_eq (fun x h => by cases h) m79 ?_
  rw [st79]
  have LL := fun R e0 e1 e2 t0 t1 t2 X T H => L79_6 A B S2 ida idb f1' g1 (by omega) (by omega) R e0 e1 e2 t0 t1 t2 X 100 A.length B.length T H (by omega) (Nat.le_refl _) (Nat.le_refl _)
  unfold joinT
  generalize trimN A B 100 A.length B.length = q at *
  obtain ⟨qa, qb⟩ := q
  simp only at *
  have hta : (A.take qa).length = qa := by simp; omega
  have MM := fun e0 e1 e2 t0 t1 t2 X T => L79_19 B qb idb (by omega) (by omega) e0 e1 e2 t0 t1 t2 X (qb - 1) (A.take qa) A S2 ida T (by omega) (by omega) (by omega) f1' (by omega) (by rw [hta]) hw1 hl2 g1 g4 hne
  rw [hta] at MM
  generalize hR : (Out.ret (V.slice (intVs (A.take qa ++ (B.take (qb - 1)).reverse))) none, finS (B.take (qb - 1)).reverse S2 ida (A.take qa)) = R at *
  have hv : IntKind.wrap .i64 ((qb : Int) - 2) = ((qb - 1 : Nat) : Int) - 1 := by rw [wrap64 (by omega) (by omega)]; omega
  simp [-St.obj, -St.set, -Int.natCast_add, k1, k2, -Int.not_le, -Int.not_lt, -Nat.not_le, -Nat.not_lt, ty3, ty4, ty22, hm, hl, hr, fi203_eq, E79, q79_9, q79_14, e79_15, n79_6, n79_19]
  refine LL _ _ _ _ ?_ ?_ ?_ _ _ (fun T => ?_)
  · simp
  · simp
  · simp
  simp [-St.obj, -St.set, -Int.natCast_add, hv, -Int.not_le, -Int.not_lt, -Nat.not_le, -Nat.not_lt, ty3, ty4, ty22, hm, hl, hr, fi203_eq, E79, q79_9, q79_14, e79_15, n79_6, n79_19]
  refine MM _ _ _ ?_ ?_ ?_ _ _
  all_goals simp
theorem k79 (p : List Int) (hp : upT 0 p = true) (hl7 : p.length ≤ 7) (a b : Nat) (ha : a ≤ p.length) (hb : b ≤ p.length) (fr : Fr) (st : St) : callStep gS (EvF gS) 79 [.slice (intVs p), .int .i64 (a : Nat), .int .i64 (b : Nat)] fr st = some (.ok (.val (.slice (intVs (pathT p a b)))) fr st) :=
  call_pure' rfl fi204_eq rfl (by simp [flats, V.flat]) (c79 p hp hl7 a b ha hb ⟨[], 0⟩ (Nat.le_refl _)) (by simp [V.flat])
end
end Go.Proofs.Ytdoobejjedpcgaa
namespace Go.Ab
open Go
set_option linter.unusedVariables false
set_option linter.unusedSimpArgs false
set_option linter.unnecessarySimpa false
theorem psame_rfl (p : Pred) : psame p p = true := by simp [psame, vsame_refl, sames_refl]
theorem fsames_rfl : ∀ l : List Pred, fsames l l = true
  | [] => rfl
  | a :: r => by simp [fsames, psame_rfl, fsames_rfl r]
theorem fsame_iff {a b : List Pred} : fsame a b = true ↔ fsames a b = true := by
  unfold fsame
  rw [Bool.and_eq_true]
  exact ⟨fun h => h.2, fun h => ⟨by simpa using fsames_len h, h⟩⟩
theorem fsame_rfl (f : List Pred) : fsame f f = true := fsame_iff.2 (fsames_rfl f)
theorem gofG_spec (l : List Sub) : ∀ (r : List Sub) (i : Nat) (out : List Grp), l.drop i = r → ∀ x, x ∈ gofG l i r out ↔ x ∈ out ∨ ∃ k s, i ≤ k ∧ l[k]? = some s ∧ fstOf l k s = true ∧ x = ⟨s.filter, cliOf l s⟩
  | [], i, out, hd, x => by
    unfold gofG
    constructor
    · exact .inl
    · rintro (h | ⟨k, s, h1, h2, _⟩)
      · exact h
      · have := (List.getElem?_eq_some_iff.1 h2).1
        have : l.length ≤ i := by simpa using hd
        omega
  | s :: r, i, out, hd, x => by
    have hi : l[i]? = some s := by
      have := congrArg (fun q => q[0]?) hd
      simpa using this
    have hd' : l.drop (i + 1) = r := by
      have := congrArg List.tail hd
      simpa using this
    unfold gofG
    rw [gofG_spec l r (i + 1) _ hd' x]
    constructor
    · rintro (h | ⟨k, t, h1, h2, h3⟩)
      · split at h
        · rename_i hf
          rcases List.mem_append.1 h with h | h
          · exact .inl h
          · simp at h
            exact .inr ⟨i, s, Nat.le_refl _, hi, hf, h⟩
        · exact .inl h
      · exact .inr ⟨k, t, by omega, h2, h3⟩
    · rintro (h | ⟨k, t, h1, h2, h3, h4⟩)
      · left; split
        · exact List.mem_append_left _ h
        · exact h
      · by_cases hk : k = i
        · subst hk
          rw [hi] at h2; cases h2
          left; rw [if_pos h3]; simp [h4]
        · exact .inr ⟨k, t, by omega, h2, h3, h4⟩
theorem gof_mem {l : List Sub} {x : Grp} : x ∈ gof l ↔ ∃ k s, l[k]? = some s ∧ fstOf l k s = true ∧ x = ⟨s.filter, cliOf l s⟩ := by
  unfold gof
  rw [gofG_spec l l 0 [] rfl x]
  constructor
  · rintro (h | ⟨k, s, _, h⟩)
    · simp at h
    · exact ⟨k, s, h⟩
  · rintro ⟨k, s, h⟩; exact .inr ⟨k, s, Nat.zero_le _, h⟩
theorem gofG_len (l : List Sub) : ∀ (r : List Sub) (i : Nat) (out : List Grp), (gofG l i r out).length ≤ out.length + r.length
  | [], _, _ => by simp [gofG]
  | s :: r, i, out => by
    unfold gofG
    have := gofG_len l r (i + 1) (if fstOf l i s then out ++ [⟨s.filter, cliOf l s⟩] else out)
    split at this
    · rename_i h; rw [if_pos h]; simp at this ⊢; omega
    · rename_i h; rw [if_neg h]; simp at this ⊢; omega
theorem gof_len (l : List Sub) : (gof l).length ≤ l.length := by
  have := gofG_len l l 0 []
  unfold gof
  simpa using this
theorem cli_mem (s : Sub) : ∀ (l : List Sub) (acc : List Int) (c : Int), c ∈ l.foldl (cliStep s) acc ↔ c ∈ acc ∨ ∃ t ∈ l, fsame s.filter t.filter = true ∧ t.client = c
  | [], acc, c => by simp
  | t :: r, acc, c => by
    rw [List.foldl_cons, cli_mem s r]
    unfold cliStep
    split
    · rename_i h
      rw [layI_mem]
      constructor
      · rintro ((rfl | h1) | ⟨u, hu, h1⟩)
        · exact .inr ⟨t, by simp, h, rfl⟩
        · exact .inl h1
        · exact .inr ⟨u, by simp [hu], h1⟩
      · rintro (h1 | ⟨u, hu, h1, h2⟩)
        · exact .inl (.inr h1)
        · rcases List.mem_cons.1 hu with rfl | hu
          · exact .inl (.inl h2.symm)
          · exact .inr ⟨u, hu, h1, h2⟩
    · rename_i h
      constructor
      · rintro (h1 | ⟨u, hu, h1⟩)
        · exact .inl h1
        · exact .inr ⟨u, by simp [hu], h1⟩
      · rintro (h1 | ⟨u, hu, h1, h2⟩)
        · exact .inl h1
        · rcases List.mem_cons.1 hu with rfl | hu
          · exact absurd h1 h
          · exact .inr ⟨u, hu, h1, h2⟩
theorem cliOf_mem {l : List Sub} {s : Sub} {c : Int} : c ∈ cliOf l s ↔ ∃ t ∈ l, fsame s.filter t.filter = true ∧ t.client = c := by
  unfold cliOf; rw [cli_mem]; simp
theorem cli_len (s : Sub) : ∀ (l : List Sub) (acc : List Int), (l.foldl (cliStep s) acc).length ≤ acc.length + l.length
  | [], acc => by simp
  | t :: r, acc => by
    rw [List.foldl_cons]
    have := cli_len s r (cliStep s acc t)
    have h2 : (cliStep s acc t).length ≤ acc.length + 1 := by
      unfold cliStep; split
      · exact layI_len _ _
      · omega
    simp only [List.length_cons]; omega
theorem cliOf_len (l : List Sub) (s : Sub) : (cliOf l s).length ≤ l.length := by
  have := cli_len s l []
  unfold cliOf; simpa using this
theorem matchG_mem (A : List Attr) : ∀ (g : List Grp) (i : Nat) (out : List Int) (c : Int), c ∈ matchG A i g out ↔ c ∈ out ∨ ∃ k x, g[k]? = some x ∧ ftakes x.filter A = true ∧ c = ((i + k : Nat) : Int)
  | [], i, out, c => by simp [matchG]
  | y :: r, i, out, c => by
    unfold matchG
    rw [matchG_mem A r]
    constructor
    · rintro (h | ⟨k, x, h1, h2, h3⟩)
      · split at h
        · rename_i hf
          rcases List.mem_append.1 h with h | h
          · exact .inl h
          · simp at h; exact .inr ⟨0, y, rfl, hf, by simp [h]⟩
        · exact .inl h
      · exact .inr ⟨k + 1, x, by simpa using h1, h2, by rw [h3]; congr 1; omega⟩
    · rintro (h | ⟨k, x, h1, h2, h3⟩)
      · left; split
        · exact List.mem_append_left _ h
        · exact h
      · cases k with
        | zero =>
          simp at h1; subst h1
          left; rw [if_pos h2]; simp [h3]
        | succ k => exact .inr ⟨k, x, by simpa using h1, h2, by rw [h3]; congr 1; omega⟩
theorem gmatch_mem {g : List Grp} {A : List Attr} {c : Int} : c ∈ gmatch g A ↔ ∃ (k : Nat) (x : Grp), g[k]? = some x ∧ ftakes x.filter A = true ∧ c = (k : Int) := by
  unfold gmatch
  rw [matchG_mem]
  simp
theorem matchG_len (A : List Attr) : ∀ (g : List Grp) (i : Nat) (out : List Int), (matchG A i g out).length ≤ out.length + g.length
  | [], _, _ => by simp [matchG]
  | y :: r, i, out => by
    unfold matchG
    have := matchG_len A r (i + 1) (if ftakes y.filter A then out ++ [(i : Int)] else out)
    split at this
    · rename_i h; rw [if_pos h]; simp at this ⊢; omega
    · rename_i h; rw [if_neg h]; simp at this ⊢; omega
theorem lay_fold_mem : ∀ (cs acc : List Int) (c : Int), c ∈ cs.foldl layI acc ↔ c ∈ acc ∨ c ∈ cs
  | [], acc, c => by simp
  | x :: r, acc, c => by
    rw [List.foldl_cons, lay_fold_mem r, layI_mem, List.mem_cons]
    constructor
    · rintro ((h | h) | h)
      · exact .inr (.inl h)
      · exact .inl h
      · exact .inr (.inr h)
    · rintro (h | h | h)
      · exact .inl (.inr h)
      · exact .inl (.inl h)
      · exact .inr h
theorem readers_mem (g : List Grp) : ∀ (m acc : List Int) (c : Int), (∀ i ∈ m, 0 ≤ i ∧ i < g.length) → (c ∈ m.foldl (rdStep g) acc ↔ c ∈ acc ∨ ∃ i ∈ m, ∃ x, g[i.toNat]? = some x ∧ c ∈ x.clients)
  | [], acc, c, _ => by simp
  | i :: r, acc, c, h => by
    rw [List.foldl_cons, readers_mem g r _ c (fun j hj => h j (by simp [hj]))]
    have hi := h i (by simp)
    obtain ⟨x, hx⟩ : ∃ x, g[i.toNat]? = some x := ⟨g[i.toNat]'(by omega), List.getElem?_eq_getElem (by omega)⟩
    have hr : rdStep g acc i = x.clients.foldl layI acc := by
      unfold rdStep; rw [if_neg (by omega), hx]; rfl
    rw [hr, lay_fold_mem]
    constructor
    · rintro ((h1 | h1) | ⟨j, hj, h1⟩)
      · exact .inl h1
      · exact .inr ⟨i, by simp, x, hx, h1⟩
      · exact .inr ⟨j, by simp [hj], h1⟩
    · rintro (h1 | ⟨j, hj, y, hy, h1⟩)
      · exact .inl (.inl h1)
      · rcases List.mem_cons.1 hj with rfl | hj
        · rw [hx] at hy; cases hy
          exact .inl (.inr h1)
        · exact .inr ⟨j, hj, y, hy, h1⟩
end Go.Ab
namespace Go.Ab
open Go
set_option linter.unusedVariables false
set_option linter.unusedSimpArgs false
set_option linter.unnecessarySimpa false
theorem mineG_mem (n : Int) : ∀ (g : List Grp) (i : Nat) (out : List Int) (c : Int), c ∈ mineG n i g out ↔ c ∈ out ∨ ∃ (k : Nat) (x : Grp), g[k]? = some x ∧ n ∈ x.clients ∧ c = ((i + k : Nat) : Int)
  | [], i, out, c => by simp [mineG]
  | y :: r, i, out, c => by
    unfold mineG
    rw [mineG_mem n r]
    constructor
    · rintro (h | ⟨k, x, h1, h2, h3⟩)
      · split at h
        · rename_i hf
          rcases List.mem_append.1 h with h | h
          · exact .inl h
          · simp at h; exact .inr ⟨0, y, rfl, hasI_iff.1 hf, by simp [h]⟩
        · exact .inl h
      · exact .inr ⟨k + 1, x, by simpa using h1, h2, by rw [h3]; congr 1; omega⟩
    · rintro (h | ⟨k, x, h1, h2, h3⟩)
      · left; split
        · exact List.mem_append_left _ h
        · exact h
      · cases k with
        | zero =>
          simp at h1; subst h1
          left; rw [if_pos (hasI_iff.2 h2)]; simp [h3]
        | succ k => exact .inr ⟨k, x, by simpa using h1, h2, by rw [h3]; congr 1; omega⟩
theorem gmine_mem {g : List Grp} {n c : Int} : c ∈ gmine g n ↔ ∃ (k : Nat) (x : Grp), g[k]? = some x ∧ n ∈ x.clients ∧ c = (k : Int) := by
  unfold gmine
  rw [mineG_mem]
  simp
theorem mineG_len (n : Int) : ∀ (g : List Grp) (i : Nat) (out : List Int), (mineG n i g out).length ≤ out.length + g.length
  | [], _, _ => by simp [mineG]
  | y :: r, i, out => by
    unfold mineG
    have := mineG_len n r (i + 1) (if hasI y.clients n then out ++ [(i : Int)] else out)
    split at this
    · rename_i h; rw [if_pos h]; simp at this ⊢; omega
    · rename_i h; rw [if_neg h]; simp at this ⊢; omega
end Go.Ab
namespace Go.Ab
open Go
set_option linter.unusedVariables false
set_option linter.unusedSimpArgs false
set_option linter.unnecessarySimpa false
/-- The one ahead of a place. -/
def prevS (l : List Sub) (i : Nat) : Option Sub := if i = 0 then none else l[i - 1]?
/-- May they all be, in this order, behind one, so many of its client? -/
def rsG : Option Sub → Int → List Sub → Bool
  | _, _, [] => true
  | none, _, s :: r => mayS s && rsG (some s) 1 r
  | some t, many, s :: r => mayS s && (if t.client < s.client then rsG (some s) 1 r else !(decide (s.client < t.client) || decide (s.num ≤ t.num) || !decide (t.broker = s.broker) || decide (3 < many + 1)) && rsG (some s) (many + 1) r)
def rightS (l : List Sub) : Bool := rsG none 0 l
theorem rsG_may : ∀ (l : List Sub) (o : Option Sub) (m : Int), rsG o m l = true → ∀ s ∈ l, mayS s = true
  | [], _, _, _, s, hs => by simp at hs
  | x :: r, none, m, h, s, hs => by
    simp only [rsG, Bool.and_eq_true] at h
    rcases List.mem_cons.1 hs with rfl | hs
    · exact h.1
    · exact rsG_may r _ _ h.2 s hs
  | x :: r, some t, m, h, s, hs => by
    simp only [rsG, Bool.and_eq_true] at h
    rcases List.mem_cons.1 hs with rfl | hs
    · exact h.1
    · have h2 := h.2
      split at h2
      · exact rsG_may r _ _ h2 s hs
      · simp only [Bool.and_eq_true] at h2
        exact rsG_may r _ _ h2.2 s hs
theorem may_client {s : Sub} (h : mayS s = true) : 1 ≤ s.client ∧ s.client ≤ 6 ∧ 0 ≤ s.broker ∧ s.broker ≤ 7 := by
  simp only [mayS, Bool.and_eq_true, decide_eq_true_eq] at h
  omega
/-- Each client's broker. -/
def homesG (p : List Int) : List Sub → List Int → List Int × Bool
  | [], h => (h, true)
  | s :: r, h => if (p.length : Int) < s.broker then (h, false) else homesG p r (h.set s.client.toNat s.broker)
def home0 : List Int := [0, 0, 0, 0, 0, 0, 0]
def homesT (p : List Int) (l : List Sub) : List Int × Bool := if rightT p && rightS l then homesG p l home0 else (home0, false)
theorem homesG_len (p : List Int) : ∀ (l : List Sub) (h : List Int), (homesG p l h).1.length = h.length
  | [], _ => rfl
  | s :: r, h => by
    unfold homesG
    split
    · rfl
    · rw [homesG_len p r]; simp
theorem homesT_len (p : List Int) (l : List Sub) : (homesT p l).1.length = 7 := by
  unfold homesT
  split
  · exact homesG_len p l home0
  · rfl
def atsOf (hm : List Int) (g : List Grp) (a b : Nat) : List Int := (bothI ((g[b]?).getD default).clients ((g[a]?).getD default).clients []).map fun c => hm.getD c.toNat 0
def ofStep (p hm : List Int) (g : List Grp) (a b : Nat) (out : List Atom) : List Atom := if atsOf hm g a b = [] then out else layA out ⟨a, b, placeT p (atsOf hm g a b)⟩
def ofB (p hm : List Int) (g : List Grp) (a : Nat) : Nat → Nat → List Atom → List Atom
  | 0, _, out => out
  | n + 1, b, out => ofB p hm g a n (b + 1) (ofStep p hm g a b out)
def ofA (p hm : List Int) (g : List Grp) : Nat → Nat → List Atom → List Atom
  | 0, _, out => out
  | n + 1, a, out => ofA p hm g n (a + 1) (ofB p hm g a (g.length - a) a out)
def chainOf (p : List Int) (l : List Sub) : List Atom := if (homesT p l).2 then ofA p (homesT p l).1 (gof l) (gof l).length 0 [] else []
theorem bothI_len (v : List Int) : ∀ (u acc : List Int), (bothI v u acc).length ≤ acc.length + u.length
  | [], acc => by simp [bothI]
  | c :: r, acc => by
    have h1 := bothI_len v r (if hasI v c = true then layI acc c else acc)
    have h2 := layI_len acc c
    unfold bothI
    simp only [List.length_cons]
    split at h1 <;> rename_i h <;> simp only [h, if_true, if_false, Bool.false_eq_true] <;> omega
theorem bothI_mem (v : List Int) : ∀ (u acc : List Int) (x : Int), x ∈ bothI v u acc ↔ x ∈ acc ∨ (x ∈ u ∧ x ∈ v)
  | [], acc, x => by simp [bothI]
  | c :: r, acc, x => by
    unfold bothI
    rw [bothI_mem v r]
    split
    · rename_i h
      rw [hasI_iff] at h
      rw [layI_mem, List.mem_cons]
      constructor
      · rintro ((rfl | h1) | h1)
        · exact .inr ⟨.inl rfl, h⟩
        · exact .inl h1
        · exact .inr ⟨.inr h1.1, h1.2⟩
      · rintro (h1 | ⟨rfl | h1, h2⟩)
        · exact .inl (.inr h1)
        · exact .inl (.inl rfl)
        · exact .inr ⟨h1, h2⟩
    · rename_i h
      rw [hasI_iff] at h
      rw [List.mem_cons]
      constructor
      · rintro (h1 | h1)
        · exact .inl h1
        · exact .inr ⟨.inr h1.1, h1.2⟩
      · rintro (h1 | ⟨rfl | h1, h2⟩)
        · exact .inl h1
        · exact absurd h2 h
        · exact .inr ⟨h1, h2⟩
theorem ofStep_len (p hm : List Int) (g : List Grp) (a b : Nat) (out : List Atom) : (ofStep p hm g a b out).length ≤ out.length + 1 := by
  unfold ofStep
  split
  · omega
  · rw [layA_len]; omega
theorem ofB_len (p hm : List Int) (g : List Grp) (a : Nat) : ∀ (n b : Nat) (out : List Atom), (ofB p hm g a n b out).length ≤ out.length + n
  | 0, _, _ => Nat.le_refl _
  | n + 1, b, out => by
    have h1 := ofB_len p hm g a n (b + 1) (ofStep p hm g a b out)
    have h2 := ofStep_len p hm g a b out
    unfold ofB; omega
end Go.Ab
namespace Go.Proofs.Ytdoobejjedpcgaa
open Go Go.Ab
set_option linter.unusedVariables false
set_option linter.unusedSimpArgs false
set_option linter.unnecessarySimpa false
set_option maxRecDepth 20000
noncomputable section
variable (fr : Fr) (st : St) (k : Kt)
def fi47 : FI := { body := codeOf Try.f47, ntmps := 23, results := [.tmp 6], pers := [0, 1, 2, 6], locals := [], pure := true, marks := [] }
theorem fi205_eq : gS.fn 47 = some fi47 := by kernel_rfl
theorem st47 (a0 a1 a2 : V) : startFr fi47 [a0, a1, a2] = { ps := [(0, .val a0), (1, .val a1), (2, .val a2), (6, .any)], ts := [], lc := [] } := rfl
def b47 : Code := mini (codeOf Try.f47)
def c47_6 : Code := .seq (codeN b47 37) .ret
def c47_5 : Code := .cond (.tmp 16) c47_6 .skip
def c47_3 : Code := .seq (codeN b47 9) c47_5
def c47_10 : Code := .seq (codeN b47 11) .ret
def c47_2 : Code := .seq c47_3 c47_10
def c47_0 : Code := .seq (codeN b47 2) c47_2
theorem E47 : evK gS fi47 c47_6 fr st k = opsR gS fi47 [op1 6 (.assign (.const (.int .i64 (-1)))) 3] fr st (.seq .ret k) ∧
 evK gS fi47 c47_5 fr st k = condK gS fi47 (fr.op (.tmp 16)).bool? c47_6 .skip fr st k ∧
 (evK gS fi47 c47_3 fr st k = opsR gS fi47 [mv 7 0 22,
 mv 8 1 3,
 cal 9 72 [(.tmp 7), (.tmp 8)] [22, 3] 4,
 op1 10 (.unOp .not 4 (.tmp 9)) 4,
 mv 11 10 4,
 mk (some 12) (.move (.tmp 0)) 22 (some (4, false)),
 mk (some 13) (.move (.tmp 2)) 3 (some (4, false)),
 mk (some 14) (.call { callee := (.value (.func 72)), args := #[(.tmp 12), (.tmp 13)], argTypes := #[22, 3] }) 4 (some (4, false)),
 mk (some 15) (.unOp .not 4 (.tmp 14)) 4 (some (4, false)),
 op1 16 (.pick (.tmp 11) (.const (.bool true)) (.tmp 15)) 4] fr st (.seq c47_5 k)) ∧
 (evK gS fi47 c47_10 fr st k = opsR gS fi47 [mv 17 0 22,
 mv 18 1 3,
 mv 19 2 3,
 cal 20 79 [(.tmp 17), (.tmp 18), (.tmp 19)] [22, 3, 3] 22,
 len1 21 20 22 3,
 op1 22 (.binOp .sub 3 (.tmp 21) (.const (.int .i64 1)) 3) 3,
 asn 6 22 3] fr st (.seq .ret k)) ∧
 evK gS fi47 c47_2 fr st k = evK gS fi47 c47_3 fr st (.seq c47_10 k) ∧
 evK gS fi47 c47_0 fr st k = opsR gS fi47 [op1 6 (.assign (.const (.int .i64 0))) 3] fr st (.seq c47_2 k) := ⟨evK_rs 2 rfl (by kernel_rfl), rfl, evK_rs 1 rfl (by kernel_rfl), evK_rs 3 rfl (by kernel_rfl), rfl, evK_rs 0 rfl (by kernel_rfl)⟩
theorem m47 : mini fi47.body = c47_0 := by kernel_rfl
theorem is_nat {p : List Int} {a : Int} (h : isT p a = true) : upT 0 p = true ∧ p.length ≤ 7 ∧ ∃ k : Nat, a = (k : Int) ∧ k ≤ p.length := by
  simp only [isT, rightT, Bool.and_eq_true, decide_eq_true_eq] at h
  exact ⟨h.1.1.1, by omega, a.toNat, by omega, by omega⟩
set_option maxHeartbeats 8000000 in
theorem c47 (p : List Int) (hpl : p.length < 4611686018427387904) (a b : Int) (st : St) : EvF gS 47 [.slice (intVs p), .int .i64 a, .int .i64 b] st = some (.ret (.int .i64 (distT p a b)) none, st) := by
  refine EvF_start fi205_eq (fun x h => by cases h) m47 ?_
  rw [st47]
  have hm : fi47.marks = [] := rfl
  have hl : fi47.locals = [] := rfl
  have hr : fi47.results = [.tmp 6] := rfl
  have ka := fun fr st => k72 p a hpl fr st
  have kb := fun fr st => k72 p b hpl fr st
  unfold distT
  cases ha : isT p a with
  | false => rw [ha] at ka; simp [ka, -Int.not_le, -Int.not_lt, -Nat.not_le, -Nat.not_lt, ty3, ty4, ty22, hm, hl, hr, E47]
  | true =>
    cases hb : isT p b with
    | false => rw [ha] at ka; rw [hb] at kb; simp [ka, kb, -Int.not_le, -Int.not_lt, -Nat.not_le, -Nat.not_lt, ty3, ty4, ty22, hm, hl, hr, E47]
    | true =>
      obtain ⟨h1, h2, i, rfl, hi⟩ := is_nat ha
      obtain ⟨_, _, j, rfl, hj⟩ := is_nat hb
      rw [ha] at ka; rw [hb] at kb
      have kp := fun fr st => k79 p h1 h2 i j hi hj fr st
      have hl1 := joinT_len (upP p i) (upP p j) (upP_len p i).1 (upP_len p j).1
      have hl2 := (upP_len p i).2
      have hl3 := (upP_len p j).2
      rw [show joinT (upP p i) (upP p j) = pathT p i j from rfl] at hl1
      have hw : IntKind.wrap .i64 (((pathT p i j).length : Int) - 1) = ((pathT p i j).length : Int) - 1 := by rw [wrap64 (by omega) (by omega)]
      simp only [Int.toNat_natCast]
      generalize pathT p i j = P at *
      simp [-Int.natCast_add, ka, kb, kp, hw, -Int.not_le, -Int.not_lt, -Nat.not_le, -Nat.not_lt, ty3, ty4, ty22, hm, hl, hr, E47]
theorem k47 (p : List Int) (hpl : p.length < 4611686018427387904) (a b : Int) (fr : Fr) (st : St) : callStep gS (EvF gS) 47 [.slice (intVs p), .int .i64 a, .int .i64 b] fr st = some (.ok (.val (.int .i64 (distT p a b))) fr st) :=
  call_pure rfl fi205_eq rfl (fun st => c47 p hpl a b st) (by simp [V.flat])
def fi34 : FI := { body := codeOf Try.f34, ntmps := 49, results := [.tmp 4], pers := [0, 1, 4, 5, 6, 7, 8, 10, 11, 23, 24, 25], locals := [], pure := true, marks := [] }
theorem fi206_eq : gS.fn 34 = some fi34 := by kernel_rfl
theorem st34 (a0 a1 : V) : startFr fi34 [a0, a1] = { ps := [(0, .val a0), (1, .val a1), (4, .any), (5, .any), (6, .any), (7, .any), (8, .any), (10, .any), (11, .any), (23, .any), (24, .any), (25, .any)], ts := [], lc := [] } := rfl
def b34 : Code := mini (codeOf Try.f34)
def c34_12 : Code := .cond (.tmp 20) .skip (.exit 0)
def c34_10 : Code := .seq (codeN b34 267) c34_12
def c34_40 : Code := .seq (codeN b34 19712587) .ret
def c34_39 : Code := .cond (.tmp 34) c34_40 .skip
def c34_37 : Code := .seq (codeN b34 5032523) c34_39
def c34_44 : Code := codeN b34 3983947
def c34_36 : Code := .seq c34_37 c34_44
def c34_34 : Code := .seq (codeN b34 1362507) c34_36
def c34_32 : Code := .seq (codeN b34 576075) c34_34
def c34_45 : Code := codeN b34 248395
def c34_30 : Code := .seq (.block 3 c34_32) c34_45
def c34_26 : Code := .seq (.cond (.tmp 26) .skip (.exit 2)) c34_30
def c34_24 : Code := .seq (codeN b34 35403) c34_26
def c34_23 : Code := .loop c34_24
def c34_22 : Code := .block 2 c34_23
def c34_20 : Code := .seq (codeN b34 4683) c34_22
def c34_49 : Code := codeN b34 11851
def c34_48 : Code := .cond (.tmp 45) c34_49 .skip
def c34_46 : Code := .seq (codeN b34 5707) c34_48
theorem e34_46 : evK gS fi34 c34_46 fr st k = opsR gS fi34 [mv 39 5 3,
 op1 40 (.binOp .lss 3 (.tmp 39) (.const (.int .i64 0)) 3) 4,
 mv 41 40 4,
 mk (some 42) (.move (.tmp 8)) 3 (some (2, false)),
 mk (some 43) (.move (.tmp 6)) 3 (some (2, false)),
 mk (some 44) (.binOp .lss 3 (.tmp 42) (.tmp 43) 3) 4 (some (2, false)),
 op1 45 (.pick (.tmp 41) (.const (.bool true)) (.tmp 44)) 4] fr st (.seq c34_48 k) := evK_rs 14 rfl (by kernel_rfl)
def c34_19 : Code := .seq c34_20 c34_46
def c34_17 : Code := .seq (codeN b34 1099) c34_19
def c34_51 : Code := codeN b34 459
def c34_15 : Code := .seq (.block 1 c34_17) c34_51
def c34_9 : Code := .seq c34_10 c34_15
def c34_8 : Code := .loop c34_9
def c34_7 : Code := .block 0 c34_8
def c34_5 : Code := .seq (codeN b34 19) c34_7
def c34_52 : Code := .seq (codeN b34 23) .ret
def c34_4 : Code := .seq c34_5 c34_52
def c34_2 : Code := .seq (codeN b34 5) c34_4
def c34_0 : Code := .seq (codeN b34 2) c34_2
theorem E34 : evK gS fi34 c34_12 fr st k = condK gS fi34 (fr.op (.tmp 20)).bool? .skip (.exit 0) fr st k ∧
 (evK gS fi34 c34_10 fr st k = opsR gS fi34 [mv 12 7 3,
 mv 13 0 22,
 len1 14 13 22 3,
 bop 15 .leq 3 12 14 3 4,
 mv 16 15 4,
 mk (some 17) (.move (.tmp 1)) 22 (some (4, true)),
 mk (some 18) (.call { callee := (.builtin .len), args := #[(.tmp 17)], argTypes := #[22] }) 3 (some (4, true)),
 mk (some 19) (.binOp .gtr 3 (.tmp 18) (.const (.int .i64 0)) 3) 4 (some (4, true)),
 op1 20 (.pick (.tmp 16) (.tmp 19) (.const (.bool false))) 4] fr st (.seq c34_12 k)) ∧
 evK gS fi34 c34_40 fr st k = opsR gS fi34 [op1 4 (.assign (.const (.int .i64 (-1)))) 3] fr st (.seq .ret k) ∧
 evK gS fi34 c34_39 fr st k = condK gS fi34 (fr.op (.tmp 34)).bool? c34_40 .skip fr st k ∧
 (evK gS fi34 c34_37 fr st k = opsR gS fi34 [mv 33 11 3,
 op1 34 (.binOp .lss 3 (.tmp 33) (.const (.int .i64 0)) 3) 4] fr st (.seq c34_39 k)) ∧
 (evK gS fi34 c34_44 fr st k = opsR gS fi34 [mv 35 8 3,
 mv 36 11 3,
 bop 37 .add 3 35 36 3 3,
 asn 8 37 3] fr st k) ∧
 evK gS fi34 c34_36 fr st k = evK gS fi34 c34_37 fr st (.seq c34_44 k) ∧
 (evK gS fi34 c34_34 fr st k = opsR gS fi34 [mv 29 0 22,
 mv 30 7 3,
 mv 31 10 3,
 cal 32 47 [(.tmp 29), (.tmp 30), (.tmp 31)] [22, 3, 3] 3,
 asn 11 32 3] fr st (.seq c34_36 k)) ∧
 (evK gS fi34 c34_32 fr st k = opsR gS fi34 [ixa 27 22 23 25 0,
 ld 28 3 27 3,
 asn 10 28 3] fr st (.seq c34_34 k)) ∧
 (evK gS fi34 c34_45 fr st k = opsR gS fi34 [op1 38 (.binOp .add 3 (.tmp 25) (.const (.int .i64 1)) 3) 3,
 mv 25 38 3] fr st k) ∧
 evK gS fi34 c34_30 fr st k = evK gS fi34 c34_32 fr st (.blk 3 (.seq c34_45 k)) ∧
 evK gS fi34 c34_26 fr st k = condK gS fi34 (fr.op (.tmp 26)).bool? .skip (.exit 2) fr st (.seq c34_30 k) ∧
 evK gS fi34 c34_24 fr st k = opsR gS fi34 [bop 26 .lss 3 25 24 3 0] fr st (.seq c34_26 k) ∧
 evK gS fi34 c34_22 fr st k = evK gS fi34 c34_23 fr st (.blk 2 k) ∧
 (evK gS fi34 c34_20 fr st k = opsR gS fi34 [mv 23 1 22,
 len1 24 23 22 3,
 op1 25 (.move (.const (.int .i64 0))) 3] fr st (.seq c34_22 k)) ∧
 (evK gS fi34 c34_49 fr st k = opsR gS fi34 [mv 46 7 3,
 mv 47 8 3,
 asn 5 46 3,
 asn 6 47 3] fr st k) ∧
 evK gS fi34 c34_48 fr st k = condK gS fi34 (fr.op (.tmp 45)).bool? c34_49 .skip fr st k ∧
 evK gS fi34 c34_19 fr st k = evK gS fi34 c34_20 fr st (.seq c34_46 k) ∧
 evK gS fi34 c34_17 fr st k = opsR gS fi34 [op1 8 (.assign (.const (.int .i64 0))) 3] fr st (.seq c34_19 k) ∧
 (evK gS fi34 c34_51 fr st k = opsR gS fi34 [mv 21 7 3,
 op1 22 (.binOp .add 3 (.tmp 21) (.const (.int .i64 1)) 3) 3,
 asn 7 22 3] fr st k) ∧
 evK gS fi34 c34_15 fr st k = evK gS fi34 c34_17 fr st (.blk 1 (.seq c34_51 k)) ∧
 evK gS fi34 c34_9 fr st k = evK gS fi34 c34_10 fr st (.seq c34_15 k) ∧
 evK gS fi34 c34_7 fr st k = evK gS fi34 c34_8 fr st (.blk 0 k) ∧
 evK gS fi34 c34_5 fr st k = opsR gS fi34 [op1 7 (.assign (.const (.int .i64 0))) 3] fr st (.seq c34_7 k) ∧
 (evK gS fi34 c34_52 fr st k = opsR gS fi34 [mv 48 5 3,
 asn 4 48 3] fr st (.seq .ret k)) ∧
 evK gS fi34 c34_4 fr st k = evK gS fi34 c34_5 fr st (.seq c34_52 k) ∧
 (evK gS fi34 c34_2 fr st k = opsR gS fi34 [op1 5 (.assign (.const (.int .i64 (-1)))) 3,
 op1 6 (.assign (.const (.int .i64 0))) 3] fr st (.seq c34_4 k)) ∧
 evK gS fi34 c34_0 fr st k = opsR gS fi34 [op1 4 (.assign (.const (.int .i64 0))) 3] fr st (.seq c34_2 k) := ⟨rfl, evK_rs 3 rfl (by kernel_rfl), evK_rs 11 rfl (by kernel_rfl), rfl, evK_rs 10 rfl (by kernel_rfl), evK_r 12 (by kernel_rfl), rfl, evK_rs 9 rfl (by kernel_rfl), evK_rs 8 rfl (by kernel_rfl), evK_r 13 (by kernel_rfl), rfl, rfl, evK_rs 7 rfl (by kernel_rfl), rfl, evK_rs 6 rfl (by kernel_rfl), evK_r 15 (by kernel_rfl), rfl, rfl, evK_rs 5 rfl (by kernel_rfl), evK_r 4 (by kernel_rfl), rfl, rfl, rfl, evK_rs 2 rfl (by kernel_rfl), evK_rs 16 rfl (by kernel_rfl), rfl, evK_rs 1 rfl (by kernel_rfl), evK_rs 0 rfl (by kernel_rfl)⟩
theorem m34 : mini fi34.body = c34_0 := by kernel_rfl
theorem n34_23 (fr : Fr) (st : St) (k : Kt) : nextK gS fi34 (.loop c34_24 k) .normal fr st = evK gS fi34 c34_23 fr st k := rfl
theorem n34_8 (fr : Fr) (st : St) (k : Kt) : nextK gS fi34 (.loop c34_9 k) .normal fr st = evK gS fi34 c34_8 fr st k := rfl
set_option maxHeartbeats 8000000 in
theorem L34_23 (p : List Int) (hpl : p.length < 4611686018427387904) (l : List Int) (hll : l.length < 1000000) (x : Nat) (best least : Int) (st : St) (R : Out × St) (o : Option Int)
    (HN : o = none → R = (.ret (.int .i64 (-1)) none, st))
    (H : ∀ (fin : Int) (e4 e10 e11 e23 e24 e25 : E) (T : List (Nat × E)) (X : List (Nat × List V)), o = some fin → e4.Tame → e10.Tame → e11.Tame → e23.Tame → e24.Tame → e25.Tame → evK gS fi34 c34_46 { ps := [(0, .val (.slice (intVs p))), (1, .val (.slice (intVs l))), (4, e4), (5, .val (.int .i64 best)), (6, .val (.int .i64 least)), (7, .val (.int .i64 (x : Nat))), (8, .val (.int .i64 fin)), (10, e10), (11, e11), (23, e23), (24, e24), (25, e25)], ts := T, lc := X } st (.blk 1 (.seq c34_51 (.loop c34_9 (.blk 0 (.seq c34_52 .nil))))) = some R) :
    ∀ (m i : Nat) (s : Int) (e4 e10 e11 : E) (T : List (Nat × E)) (X : List (Nat × List V)), e4.Tame → e10.Tame → e11.Tame → i ≤ l.length → l.length - i = m → 0 ≤ s → s ≤ 20 * i → o = sumT p x (l.drop i) s →
    evK gS fi34 c34_23 { ps := [(0, .val (.slice (intVs p))), (1, .val (.slice (intVs l))), (4, e4), (5, .val (.int .i64 best)), (6, .val (.int .i64 least)), (7, .val (.int .i64 (x : Nat))), (8, .val (.int .i64 s)), (10, e10), (11, e11), (23, .val (.slice (intVs l))), (24, .val (.int .i64 l.length)), (25, .val (.int .i64 (i : Nat)))], ts := T, lc := X } st (.blk 2 (.seq c34_46 (.blk 1 (.seq c34_51 (.loop c34_9 (.blk 0 (.seq c34_52 .nil))))))) = some R := by
  intro m
  have hm : fi34.marks = [] := rfl
  have hl : fi34.locals = [] := rfl
  have hr : fi34.results = [.tmp 4] := rfl
  induction m with
  | zero =>
    intro i s e4 e10 e11 T X h4 h10 h11 hi hm2 hs0 hs1 ho
    obtain rfl : i = l.length := by omega
    rw [List.drop_length] at ho
    have HH := fun e4 e10 e11 e23 e24 e25 T X => H s e4 e10 e11 e23 e24 e25 T X ho
    refine evK_loop c34_24 _ _ _ _ rfl ?_
    simp [-Int.natCast_add, h4, h10, h11, -Int.not_le, -Int.not_lt, -Nat.not_le, -Nat.not_lt, ty3, ty4, ty22, hm, hl, hr, E34, n34_23, n34_8]
    exact HH _ _ _ _ _ _ _ _ h4 h10 h11 (tame_val _) (tame_val _) (tame_val _)
  | succ m ih =>
    intro i s e4 e10 e11 T X h4 h10 h11 hi hm2 hs0 hs1 ho
    obtain ⟨y, hy⟩ : ∃ y, l[i]? = some y := ⟨l[i]'(by omega), List.getElem?_eq_getElem (by omega)⟩
    have hlt : (i : Int) < (l.length : Int) := by omega
    obtain ⟨hlt2, hye⟩ := List.getElem?_eq_some_iff.1 hy
    have hw : IntKind.wrap .i64 ((i : Int) + 1) = ((i + 1 : Nat) : Int) := by rw [wrap64 (by omega) (by omega)]; omega
    rw [drop_get hy] at ho
    rw [show sumT p x (y :: l.drop (i + 1)) s = if distT p x y < 0 then none else sumT p x (l.drop (i + 1)) (s + distT p x y) from rfl] at ho
    have hd := distT_range p x y
    have kd := fun fr st => k47 p hpl (x : Int) y fr st
    generalize distT p x y = d at *
    refine evK_loop c34_24 _ _ _ _ rfl ?_
    by_cases hn : d < 0
    · rw [if_pos hn] at ho
      have hR := HN ho
      simp [-Int.natCast_add, h4, h10, h11, hy, hye, hlt, hlt2, kd, hn, hR, -Int.not_le, -Int.not_lt, -Nat.not_le, -Nat.not_lt, ty3, ty4, ty22, hm, hl, hr, E34, e34_46, n34_23, n34_8]
    · rw [if_neg hn] at ho
      have hw2 : IntKind.wrap .i64 (s + d) = s + d := by rw [wrap64 (by omega) (by omega)]
      have IH := fun e4 e10 e11 T X h4 h10 h11 => ih (i + 1) (s + d) e4 e10 e11 T X h4 h10 h11 (by omega) (by omega) (by omega) (by omega) ho
      simp [-Int.natCast_add, h4, h10, h11, hy, hye, hlt, hlt2, hw, kd, hn, hw2, -Int.not_le, -Int.not_lt, -Nat.not_le, -Nat.not_lt, ty3, ty4, ty22, hm, hl, hr, E34, e34_46, n34_23, n34_8]
      exact IH _ _ _ _ _ h4 (tame_val _) (tame_val _)
set_option maxHeartbeats 8000000 in
theorem L34 (p : List Int) (hpl : p.length < 1000000) (l : List Int) (hll : l.length < 1000000) (hln : l ≠ []) (st : St) :
    ∀ (m x : Nat) (best least : Int) (e4 e8 e10 e11 e23 e24 e25 : E) (T : List (Nat × E)) (X : List (Nat × List V)), e4.Tame → e8.Tame → e10.Tame → e11.Tame → e23.Tame → e24.Tame → e25.Tame → x ≤ p.length + 1 → p.length + 1 - x = m →
    evK gS fi34 c34_8 { ps := [(0, .val (.slice (intVs p))), (1, .val (.slice (intVs l))), (4, e4), (5, .val (.int .i64 best)), (6, .val (.int .i64 least)), (7, .val (.int .i64 (x : Nat))), (8, e8), (10, e10), (11, e11), (23, e23), (24, e24), (25, e25)], ts := T, lc := X } st (.blk 0 (.seq c34_52 .nil)) = some (.ret (.int .i64 (placeL p l m x best least)) none, st) := by
  intro m
  have hm : fi34.marks = [] := rfl
  have hl : fi34.locals = [] := rfl
  have hr : fi34.results = [.tmp 4] := rfl
  have hl0 : (0 : Int) < (l.length : Int) := by have := List.length_pos_iff.2 hln; omega
  have hl0' : 0 < l.length := List.length_pos_iff.2 hln
  induction m with
  | zero =>
    intro x best least e4 e8 e10 e11 e23 e24 e25 T X h4 h8 h10 h11 h23 h24 h25 hx hm2
    rw [show placeL p l 0 x best least = best from rfl]
    have hx1 : ¬ (x : Int) ≤ (p.length : Int) := by omega
    have hx2 : ¬ x ≤ p.length := by omega
    refine evK_loop c34_9 _ _ _ _ rfl ?_
    simp [-Int.natCast_add, h4, h8, h10, h11, h23, h24, h25, hx1, hx2, -Int.not_le, -Int.not_lt, -Nat.not_le, -Nat.not_lt, ty3, ty4, ty22, hm, hl, hr, E34, e34_46, n34_23, n34_8]
  | succ m ih =>
    intro x best least e4 e8 e10 e11 e23 e24 e25 T X h4 h8 h10 h11 h23 h24 h25 hx hm2
    have hx1 : (x : Int) ≤ (p.length : Int) := by omega
    have hx2 : x ≤ p.length := by omega
    have hw : IntKind.wrap .i64 ((x : Int) + 1) = ((x + 1 : Nat) : Int) := by rw [wrap64 (by omega) (by omega)]; omega
    have IH := fun best least e4 e8 e10 e11 e23 e24 e25 T X h4 h8 h10 h11 h23 h24 h25 => ih (x + 1) best least e4 e8 e10 e11 e23 e24 e25 T X h4 h8 h10 h11 h23 h24 h25 (by omega) (by omega)
    rw [show placeL p l (m + 1) x best least = match sumT p x l 0 with
      | none => -1
      | some s => if best < 0 ∨ s < least then placeL p l m (x + 1) x s else placeL p l m (x + 1) best least from rfl]
    generalize hR : (Out.ret (V.int .i64 (match sumT p x l 0 with
      | none => -1
      | some s => if best < 0 ∨ s < least then placeL p l m (x + 1) x s else placeL p l m (x + 1) best least)) none, st) = R
    have HN : sumT p x l 0 = none → R = (.ret (.int .i64 (-1)) none, st) := fun h => by rw [← hR, h]
    have H46 : ∀ (fin : Int) (e4 e10 e11 e23 e24 e25 : E) (T : List (Nat × E)) (X : List (Nat × List V)), sumT p x l 0 = some fin → e4.Tame → e10.Tame → e11.Tame → e23.Tame → e24.Tame → e25.Tame → evK gS fi34 c34_46 { ps := [(0, .val (.slice (intVs p))), (1, .val (.slice (intVs l))), (4, e4), (5, .val (.int .i64 best)), (6, .val (.int .i64 least)), (7, .val (.int .i64 (x : Nat))), (8, .val (.int .i64 fin)), (10, e10), (11, e11), (23, e23), (24, e24), (25, e25)], ts := T, lc := X } st (.blk 1 (.seq c34_51 (.loop c34_9 (.blk 0 (.seq c34_52 .nil))))) = some R := by
      intro fin e4 e10 e11 e23 e24 e25 T X hf h4 h10 h11 h23 h24 h25
      rw [← hR, hf]
      simp only
      by_cases hb : best < 0
      · rw [if_pos (.inl hb)]
        simp [-Int.natCast_add, h4, h10, h11, h23, h24, h25, hb, hw, -Int.not_le, -Int.not_lt, -Nat.not_le, -Nat.not_lt, ty3, ty4, ty22, hm, hl, hr, E34, e34_46, n34_23, n34_8]
        exact IH _ _ _ _ _ _ _ _ _ _ _ h4 (tame_val _) h10 h11 h23 h24 h25
      · by_cases hc : fin < least
        · rw [if_pos (.inr hc)]
          simp [-Int.natCast_add, h4, h10, h11, h23, h24, h25, hb, hc, hw, -Int.not_le, -Int.not_lt, -Nat.not_le, -Nat.not_lt, ty3, ty4, ty22, hm, hl, hr, E34, e34_46, n34_23, n34_8]
          exact IH _ _ _ _ _ _ _ _ _ _ _ h4 (tame_val _) h10 h11 h23 h24 h25
        · rw [if_neg (by omega)]
          simp [-Int.natCast_add, h4, h10, h11, h23, h24, h25, hb, hc, hw, -Int.not_le, -Int.not_lt, -Nat.not_le, -Nat.not_lt, ty3, ty4, ty22, hm, hl, hr, E34, e34_46, n34_23, n34_8]
          exact IH _ _ _ _ _ _ _ _ _ _ _ h4 (tame_val _) h10 h11 h23 h24 h25
    have LL := fun e4 e10 e11 T X h4 h10 h11 => L34_23 p (by omega) l hll x best least st R (sumT p x l 0) HN H46 l.length 0 0 e4 e10 e11 T X h4 h10 h11 (Nat.zero_le _) rfl (by omega) (by omega) rfl
    rw [show ((0 : Nat) : Int) = 0 from rfl] at LL
    refine evK_loop c34_9 _ _ _ _ rfl ?_
    simp [-Int.natCast_add, h4, h8, h10, h11, h23, h24, h25, hx1, hx2, hl0, hl0', hln, -Int.not_le, -Int.not_lt, -Nat.not_le, -Nat.not_lt, ty3, ty4, ty22, hm, hl, hr, E34, e34_46, n34_23, n34_8]
    exact LL _ _ _ _ _ h4 h10 h11
set_option maxHeartbeats 8000000 in
theorem c34 (p : List Int) (hpl : p.length < 1000000) (l : List Int) (hll : l.length < 1000000) (st : St) : EvF gS 34 [.slice (intVs p), .slice (intVs l)] st = some (.ret (.int .i64 (placeT p l)) none, st) := by
  refine EvF_start fi206_eq (fun x h => by cases h) m34 ?_
  rw [st34]
  have hm : fi34.marks = [] := rfl
  have hl : fi34.locals = [] := rfl
  have hr : fi34.results = [.tmp 4] := rfl
  unfold placeT
  by_cases hln : l = []
  · rw [if_pos hln]
    subst hln
    have h0 : (0 : Int) ≤ (p.length : Int) := by omega
    simp [-Int.not_le, -Int.not_lt, -Nat.not_le, -Nat.not_lt, ty3, ty4, ty22, hm, hl, hr, E34, e34_46, n34_23, n34_8]
    refine evK_loop c34_9 _ _ _ _ rfl ?_
    simp [h0, -Int.not_le, -Int.not_lt, -Nat.not_le, -Nat.not_lt, ty3, ty4, ty22, hm, hl, hr, E34, e34_46, n34_23, n34_8]
  · rw [if_neg hln]
    have LL := fun e4 e8 e10 e11 e23 e24 e25 T X h4 h8 h10 h11 h23 h24 h25 => L34 p hpl l hll hln st (p.length + 1) 0 (-1) 0 e4 e8 e10 e11 e23 e24 e25 T X h4 h8 h10 h11 h23 h24 h25 (Nat.zero_le _) rfl
    rw [show ((0 : Nat) : Int) = 0 from rfl] at LL
    simp [-Int.not_le, -Int.not_lt, -Nat.not_le, -Nat.not_lt, ty3, ty4, ty22, hm, hl, hr, E34, e34_46, n34_23, n34_8]
    refine LL _ _ _ _ _ _ _ _ _ ?_ ?_ ?_ ?_ ?_ ?_ ?_
    all_goals simp
theorem k34 (p : List Int) (hpl : p.length < 1000000) (l : List Int) (hll : l.length < 1000000) (fr : Fr) (st : St) : callStep gS (EvF gS) 34 [.slice (intVs p), .slice (intVs l)] fr st = some (.ok (.val (.int .i64 (placeT p l))) fr st) :=
  call_pure rfl fi206_eq rfl (fun st => c34 p hpl l hll st) (by simp [V.flat])
def fi89 : FI := { body := codeOf Try.f89, ntmps := 67, results := [.tmp 2], pers := [0, 2, 3, 4, 5, 6, 7, 8], locals := [5], pure := true, marks := [] }
theorem fi212_eq : gS.fn 89 = some fi89 := by kernel_rfl
theorem st89 (a0 : V) : startFr fi89 [a0] = { ps := [(0, .val a0), (2, .any), (3, .any), (4, .any), (5, .any), (6, .any), (7, .any), (8, .any)], ts := [], lc := [] } := rfl
def b89 : Code := mini (codeOf Try.f89)
def c89_23 : Code := .seq (codeN b89 38091) .ret
def c89_22 : Code := .cond (.tmp 15) c89_23 .skip
def c89_20 : Code := .seq (codeN b89 9419) c89_22
def r89_29 : Array Oper := regOps (codeN (codeOf Try.f89) 19659)
def c89_29 : Code := .region 7 r89_29 true
def q89_29 : List (Oper × Fl) := [(mv 16 4 3, ⟨true, true, true, false, true, false, true, true, false, false, []⟩),
 (op1 17 (.binOp .eql 3 (.tmp 16) (.const (.int .i64 0)) 3) 4, ⟨true, true, true, false, true, false, true, true, false, false, []⟩),
 (mv 18 17 4, ⟨true, true, true, false, true, false, true, true, false, false, []⟩),
 (mk (some 19) (.move (.tmp 0)) 26 (some (2, false)), ⟨true, false, true, false, false, false, true, true, false, false, []⟩),
 (mk (some 20) (.move (.tmp 4)) 3 (some (2, false)), ⟨true, false, true, false, false, false, true, true, false, false, []⟩),
 (mk (some 21) (.binOp .sub 3 (.tmp 20) (.const (.int .i64 1)) 3) 3 (some (2, false)), ⟨true, false, true, false, false, false, true, true, false, false, []⟩),
 (mk (some 22) (.indexAddr 26 (.tmp 19) (.tmp 21)) 0 (some (2, false)), ⟨true, false, true, false, false, false, true, true, false, false, []⟩),
 (mk (some 23) (.fieldAddr 31 (.tmp 22) 0) 0 (some (2, false)), ⟨true, false, true, false, false, false, true, true, false, false, []⟩),
 (mk (some 24) (.load 3 (.tmp 23)) 3 (some (2, false)), ⟨true, false, true, false, false, false, true, true, false, false, []⟩),
 (mk (some 25) (.fieldAddr 31 (.tmp 5) 0) 0 (some (2, false)), ⟨true, false, true, false, true, false, true, true, false, false, []⟩),
 (mk (some 26) (.load 3 (.tmp 25)) 3 (some (2, false)), ⟨true, false, true, false, true, false, true, true, false, false, []⟩),
 (mk (some 27) (.binOp .lss 3 (.tmp 24) (.tmp 26) 3) 4 (some (2, false)), ⟨true, false, true, false, true, false, true, true, false, false, []⟩),
 (op1 28 (.pick (.tmp 18) (.const (.bool true)) (.tmp 27)) 4, ⟨true, false, true, false, true, false, true, true, false, false, []⟩)]
def c89_31 : Code := .seq (codeN b89 77003) (.exit 1)
def c89_30 : Code := .cond (.tmp 28) c89_31 .skip
def c89_28 : Code := .seq c89_29 c89_30
def r89_38 : Array Oper := regOps (codeN (codeOf Try.f89) 48331)
def c89_38 : Code := .region 10 r89_38 true
def q89_38 : List (Oper × Fl) := [(mv 31 0 26, ⟨true, false, true, false, false, false, true, true, false, false, []⟩),
 (mv 32 4 3, ⟨true, false, true, false, false, false, true, true, false, false, []⟩),
 (op1 33 (.binOp .sub 3 (.tmp 32) (.const (.int .i64 1)) 3) 3, ⟨true, false, true, false, false, false, true, true, false, false, []⟩),
 (ixa 34 26 31 33 0, ⟨true, false, true, false, false, false, true, true, false, false, []⟩),
 (op1 35 (.fieldAddr 31 (.tmp 34) 0) 0, ⟨true, false, true, false, false, false, true, true, false, false, []⟩),
 (ld 36 3 35 3, ⟨true, false, true, false, false, false, true, true, false, false, []⟩),
 (op1 37 (.fieldAddr 31 (.tmp 5) 0) 0, ⟨true, false, true, false, false, false, true, true, false, false, []⟩),
 (ld 38 3 37 3, ⟨true, false, true, false, false, false, true, true, false, false, []⟩),
 (bop 39 .gtr 3 36 38 3 4, ⟨true, false, true, false, true, false, true, true, false, false, []⟩),
 (mv 40 39 4, ⟨true, false, true, false, true, false, true, true, false, false, []⟩),
 (mk (some 41) (.move (.tmp 0)) 26 (some (9, false)), ⟨true, false, true, false, false, false, true, true, false, false, []⟩),
 (mk (some 42) (.move (.tmp 4)) 3 (some (9, false)), ⟨true, false, true, false, false, false, true, true, false, false, []⟩),
 (mk (some 43) (.binOp .sub 3 (.tmp 42) (.const (.int .i64 1)) 3) 3 (some (9, false)), ⟨true, false, true, false, false, false, true, true, false, false, []⟩),
 (mk (some 44) (.indexAddr 26 (.tmp 41) (.tmp 43)) 0 (some (9, false)), ⟨true, false, true, false, false, false, true, true, false, false, []⟩),
 (mk (some 45) (.fieldAddr 31 (.tmp 44) 2) 0 (some (9, false)), ⟨true, false, true, false, false, false, true, true, false, false, []⟩),
 (mk (some 46) (.load 3 (.tmp 45)) 3 (some (9, false)), ⟨true, false, true, false, false, false, true, true, false, false, []⟩),
 (mk (some 47) (.fieldAddr 31 (.tmp 5) 2) 0 (some (9, false)), ⟨true, false, true, false, false, false, true, true, false, false, []⟩),
 (mk (some 48) (.load 3 (.tmp 47)) 3 (some (9, false)), ⟨true, false, true, false, false, false, true, true, false, false, []⟩),
 (mk (some 49) (.binOp .geq 3 (.tmp 46) (.tmp 48) 3) 4 (some (9, false)), ⟨true, false, true, false, true, false, true, true, false, false, []⟩),
 (op1 50 (.pick (.tmp 40) (.const (.bool true)) (.tmp 49)) 4, ⟨true, false, true, false, true, false, true, true, false, false, []⟩),
 (mv 51 50 4, ⟨true, false, true, false, true, false, true, true, false, false, []⟩),
 (mk (some 52) (.move (.tmp 0)) 26 (some (20, false)), ⟨true, false, true, false, false, false, true, true, false, false, []⟩),
 (mk (some 53) (.move (.tmp 4)) 3 (some (20, false)), ⟨true, false, true, false, false, false, true, true, false, false, []⟩),
 (mk (some 54) (.binOp .sub 3 (.tmp 53) (.const (.int .i64 1)) 3) 3 (some (20, false)), ⟨true, false, true, false, false, false, true, true, false, false, []⟩),
 (mk (some 55) (.indexAddr 26 (.tmp 52) (.tmp 54)) 0 (some (20, false)), ⟨true, false, true, false, false, false, true, true, false, false, []⟩),
 (mk (some 56) (.fieldAddr 31 (.tmp 55) 1) 0 (some (20, false)), ⟨true, false, true, false, false, false, true, true, false, false, []⟩),
 (mk (some 57) (.load 3 (.tmp 56)) 3 (some (20, false)), ⟨true, false, true, false, false, false, true, true, false, false, []⟩),
 (mk (some 58) (.fieldAddr 31 (.tmp 5) 1) 0 (some (20, false)), ⟨true, false, true, false, false, false, true, true, false, false, []⟩),
 (mk (some 59) (.load 3 (.tmp 58)) 3 (some (20, false)), ⟨true, false, true, false, true, false, true, true, false, false, []⟩),
 (mk (some 60) (.binOp .neq 3 (.tmp 57) (.tmp 59) 3) 4 (some (20, false)), ⟨true, false, true, false, true, false, true, true, false, false, []⟩),
 (op1 61 (.pick (.tmp 51) (.const (.bool true)) (.tmp 60)) 4, ⟨true, false, true, false, true, false, true, true, false, false, []⟩),
 (mv 62 61 4, ⟨true, false, true, false, true, false, true, true, false, false, []⟩),
 (mk (some 63) (.move (.tmp 3)) 3 (some (31, false)), ⟨true, false, true, false, true, false, true, true, false, false, []⟩),
 (mk (some 64) (.binOp .gtr 3 (.tmp 63) (.const (.int .i64 3)) 3) 4 (some (31, false)), ⟨true, false, true, false, true, false, true, true, false, false, []⟩),
 (op1 65 (.pick (.tmp 62) (.const (.bool true)) (.tmp 64)) 4, ⟨true, false, true, false, true, false, true, true, false, false, []⟩)]
def c89_40 : Code := .seq (codeN b89 163019) .ret
def c89_39 : Code := .cond (.tmp 65) c89_40 .skip
def c89_37 : Code := .seq c89_38 c89_39
def c89_35 : Code := .seq (codeN b89 23755) c89_37
def c89_27 : Code := .seq c89_28 c89_35
def c89_19 : Code := .seq c89_20 c89_27
def c89_17 : Code := .seq (codeN b89 2251) c89_19
def c89_44 : Code := codeN b89 971
def c89_15 : Code := .seq (.block 1 c89_17) c89_44
def c89_11 : Code := .seq (.cond (.tmp 9) .skip (.exit 0)) c89_15
def c89_9 : Code := .seq (codeN b89 139) c89_11
def c89_8 : Code := .loop c89_9
def c89_7 : Code := .block 0 c89_8
def c89_5 : Code := .seq (codeN b89 19) c89_7
def c89_45 : Code := .seq (codeN b89 23) .ret
def c89_4 : Code := .seq c89_5 c89_45
def c89_2 : Code := .seq (codeN b89 5) c89_4
def c89_0 : Code := .seq (codeN b89 2) c89_2
theorem E89 : evK gS fi89 c89_23 fr st k = opsR gS fi89 [op1 2 (.assign (.const (.bool false))) 4] fr st (.seq .ret k) ∧
 evK gS fi89 c89_22 fr st k = condK gS fi89 (fr.op (.tmp 15)).bool? c89_23 .skip fr st k ∧
 (evK gS fi89 c89_20 fr st k = opsR gS fi89 [ld 13 31 5 31,
 cal 14 111 [(.tmp 13)] [31] 4,
 op1 15 (.unOp .not 4 (.tmp 14)) 4] fr st (.seq c89_22 k)) ∧
 evK gS fi89 c89_29 fr st k = drwR gS fi89 r89_29 q89_29 fr st k ∧
 evK gS fi89 c89_31 fr st k = opsR gS fi89 [op1 3 (.assign (.const (.int .i64 1))) 3] fr st (.seq (.exit 1) k) ∧
 evK gS fi89 c89_30 fr st k = condK gS fi89 (fr.op (.tmp 28)).bool? c89_31 .skip fr st k ∧
 evK gS fi89 c89_28 fr st k = evK gS fi89 c89_29 fr st (.seq c89_30 k) ∧
 evK gS fi89 c89_38 fr st k = drwR gS fi89 r89_38 q89_38 fr st k ∧
 evK gS fi89 c89_40 fr st k = opsR gS fi89 [op1 2 (.assign (.const (.bool false))) 4] fr st (.seq .ret k) ∧
 evK gS fi89 c89_39 fr st k = condK gS fi89 (fr.op (.tmp 65)).bool? c89_40 .skip fr st k ∧
 evK gS fi89 c89_37 fr st k = evK gS fi89 c89_38 fr st (.seq c89_39 k) ∧
 (evK gS fi89 c89_35 fr st k = opsR gS fi89 [mv 29 3 3,
 op1 30 (.binOp .add 3 (.tmp 29) (.const (.int .i64 1)) 3) 3,
 asn 3 30 3] fr st (.seq c89_37 k)) ∧
 evK gS fi89 c89_27 fr st k = evK gS fi89 c89_28 fr st (.seq c89_35 k) ∧
 evK gS fi89 c89_19 fr st k = evK gS fi89 c89_20 fr st (.seq c89_27 k) ∧
 (evK gS fi89 c89_17 fr st k = opsR gS fi89 [mv 10 8 3,
 ixa 11 26 6 8 0,
 ld 12 31 11 31,
 op1 5 (.alloc 31) 0,
 asn 4 10 3,
 sto 31 5 12] fr st (.seq c89_19 k)) ∧
 (evK gS fi89 c89_44 fr st k = opsR gS fi89 [op1 66 (.binOp .add 3 (.tmp 8) (.const (.int .i64 1)) 3) 3,
 mv 8 66 3] fr st k) ∧
 evK gS fi89 c89_15 fr st k = evK gS fi89 c89_17 fr st (.blk 1 (.seq c89_44 k)) ∧
 evK gS fi89 c89_11 fr st k = condK gS fi89 (fr.op (.tmp 9)).bool? .skip (.exit 0) fr st (.seq c89_15 k) ∧
 evK gS fi89 c89_9 fr st k = opsR gS fi89 [bop 9 .lss 3 8 7 3 0] fr st (.seq c89_11 k) ∧
 evK gS fi89 c89_7 fr st k = evK gS fi89 c89_8 fr st (.blk 0 k) ∧
 (evK gS fi89 c89_5 fr st k = opsR gS fi89 [mv 6 0 26,
 len1 7 6 26 3,
 op1 8 (.move (.const (.int .i64 0))) 3] fr st (.seq c89_7 k)) ∧
 evK gS fi89 c89_45 fr st k = opsR gS fi89 [op1 2 (.assign (.const (.bool true))) 4] fr st (.seq .ret k) ∧
 evK gS fi89 c89_4 fr st k = evK gS fi89 c89_5 fr st (.seq c89_45 k) ∧
 evK gS fi89 c89_2 fr st k = opsR gS fi89 [op1 3 (.assign (.const (.int .i64 0))) 3] fr st (.seq c89_4 k) ∧
 evK gS fi89 c89_0 fr st k = opsR gS fi89 [op1 2 (.assign (.const (.bool false))) 4] fr st (.seq c89_2 k) := ⟨evK_rs 6 rfl (by kernel_rfl), rfl, evK_rs 5 rfl (by kernel_rfl), evK_dr 7 rfl (by kernel_rfl) (by kernel_rfl), evK_rs 8 rfl (by kernel_rfl), rfl, rfl, evK_dr 10 rfl (by kernel_rfl) (by kernel_rfl), evK_rs 11 rfl (by kernel_rfl), rfl, rfl, evK_rs 9 rfl (by kernel_rfl), rfl, rfl, evK_rs 4 rfl (by kernel_rfl), evK_r 12 (by kernel_rfl), rfl, rfl, evK_rs 3 rfl (by kernel_rfl), rfl, evK_rs 2 rfl (by kernel_rfl), evK_rs 13 rfl (by kernel_rfl), rfl, evK_rs 1 rfl (by kernel_rfl), evK_rs 0 rfl (by kernel_rfl)⟩
theorem m89 : mini fi89.body = c89_0 := by kernel_rfl
theorem n89_8 (fr : Fr) (st : St) (k : Kt) : nextK gS fi89 (.loop c89_9 k) .normal fr st = evK gS fi89 c89_8 fr st k := rfl
theorem prev_succ {l : List Sub} {i : Nat} {x : Sub} (h : l[i]? = some x) : prevS l (i + 1) = some x := by unfold prevS; rw [if_neg (by omega), Nat.add_sub_cancel]; exact h
set_option maxHeartbeats 8000000 in
theorem L89 (l : List Sub) (hl1 : ∀ s ∈ l, POk s.filter) (hl2 : l.length < 1000000) (st : St) : ∀ (m i : Nat) (many : Int) (e4 e5 : E) (T : List (Nat × E)) (X : List (Nat × List V)), e4.Tame → e5 = .any ∨ e5 = .lp 5 0 → 0 ≤ many → many ≤ i → i ≤ l.length → l.length - i = m →
    evK gS fi89 c89_8 { ps := [(0, .val (.slice (encSubs l))), (2, .val (.bool false)), (3, .val (.int .i64 many)), (4, e4), (5, e5), (6, .val (.slice (encSubs l))), (7, .val (.int .i64 l.length)), (8, .val (.int .i64 (i : Nat)))], ts := T, lc := X } st (.blk 0 (.seq c89_45 .nil)) = some (.ret (.bool (rsG (prevS l i) many (l.drop i))) none, st) := by
  intro m
  have hm : fi89.marks = [] := rfl
  have hl : fi89.locals = [5] := rfl
  have hr : fi89.results = [.tmp 2] := rfl
  induction m with
  | zero =>
    intro i many e4 e5 T X h4 h5 hm0 hm1 hi hm2
    obtain rfl : i = l.length := by omega
    rw [List.drop_length, show rsG (prevS l l.length) many [] = true from by cases prevS l l.length <;> rfl]
    refine evK_loop c89_9 _ _ _ _ rfl ?_
    rcases h5 with rfl | rfl <;> simp [h4, -Int.not_le, -Int.not_lt, -Nat.not_le, -Nat.not_lt, ty3, ty4, ty26, ty31, hm, hl, hr, x111, fi211_eq, p111, E89, q89_29, q89_38, n89_8]
  | succ m ih =>
    intro i many e4 e5 T X h4 h5 hm0 hm1 hi hm2
    obtain ⟨x, hx⟩ : ∃ x, l[i]? = some x := ⟨l[i]'(by omega), List.getElem?_eq_getElem (by omega)⟩
    have hlt : (i : Int) < (l.length : Int) := by omega
    obtain ⟨hlt2, hxe⟩ := List.getElem?_eq_some_iff.1 hx
    have hw : IntKind.wrap .i64 ((i : Int) + 1) = ((i + 1 : Nat) : Int) := by rw [wrap64 (by omega) (by omega)]; omega
    have hwm : IntKind.wrap .i64 (many + 1) = many + 1 := by rw [wrap64 (by omega) (by omega)]
    have hxo := hl1 x (List.mem_of_getElem? hx)
    have kk := fun fr st => k111 x.client x.broker x.num x.filter hxo fr st
    rw [show mayS ⟨x.client, x.broker, x.num, x.filter⟩ = mayS x from rfl] at kk
    have IH := fun many e4 e5 T X h4 h5 hm0 hm1 => ih (i + 1) many e4 e5 T X h4 h5 hm0 hm1 (by omega) (by omega)
    rw [prev_succ hx] at IH
    rw [drop_get hx]
    generalize hD : l.drop (i + 1) = D at *
    cases i with
    | zero =>
      rw [show prevS l 0 = none from rfl, show rsG none many (x :: D) = (mayS x && rsG (some x) 1 D) from rfl]
      generalize mayS x = t at *
      refine evK_loop c89_9 _ _ _ _ rfl ?_
      cases t with
      | false => rcases h5 with rfl | rfl <;> simp [-Int.natCast_add, h4, hx, hxe, hlt, hlt2, kk, -Int.not_le, -Int.not_lt, -Nat.not_le, -Nat.not_lt, ty3, ty4, ty26, ty31, hm, hl, hr, x111, fi211_eq, p111, E89, q89_29, q89_38, n89_8]
      | true =>
        have I1 := fun e4 e5 T X h4 h5 => IH 1 e4 e5 T X h4 h5 (by omega) (by omega)
        rw [show ((0 : Nat) : Int) = 0 from rfl] at *
        rcases h5 with rfl | rfl
        · simp [-Int.natCast_add, h4, hx, hxe, hlt, hlt2, kk, hw, -Int.not_le, -Int.not_lt, -Nat.not_le, -Nat.not_lt, ty3, ty4, ty26, ty31, hm, hl, hr, x111, fi211_eq, p111, E89, q89_29, q89_38, n89_8]
          exact I1 _ _ _ _ (tame_val _) (.inr rfl)
        · simp [-Int.natCast_add, h4, hx, hxe, hlt, hlt2, kk, hw, -Int.not_le, -Int.not_lt, -Nat.not_le, -Nat.not_lt, ty3, ty4, ty26, ty31, hm, hl, hr, x111, fi211_eq, p111, E89, q89_29, q89_38, n89_8]
          exact I1 _ _ _ _ (tame_val _) (.inr rfl)
    | succ k =>
      obtain ⟨y, hy⟩ : ∃ y, l[k]? = some y := ⟨l[k]'(by omega), List.getElem?_eq_getElem (by omega)⟩
      obtain ⟨hlk, hye⟩ := List.getElem?_eq_some_iff.1 hy
      have hltk : (k : Int) < (l.length : Int) := by omega
      have hwk : IntKind.wrap .i64 (((k + 1 : Nat) : Int) - 1) = (k : Int) := by rw [wrap64 (by omega) (by omega)]; omega
      have hne : ¬ ((k + 1 : Nat) : Int) = 0 := by omega
      rw [prev_succ hy, show rsG (some y) many (x :: D) = (mayS x && (if y.client < x.client then rsG (some x) 1 D else !(decide (x.client < y.client) || decide (x.num ≤ y.num) || !decide (y.broker = x.broker) || decide (3 < many + 1)) && rsG (some x) (many + 1) D)) from rfl]
      generalize mayS x = t at *
      have I1 := fun e4 e5 T X h4 h5 => IH 1 e4 e5 T X h4 h5 (by omega) (by omega)
      have I2 := fun e4 e5 T X h4 h5 => IH (many + 1) e4 e5 T X h4 h5 (by omega) (by omega)
      clear IH ih
      refine evK_loop c89_9 _ _ _ _ rfl ?_
      cases t with
      | false => rcases h5 with rfl | rfl <;> simp [-Int.natCast_add, h4, hx, hxe, hlt, hlt2, kk, -Int.not_le, -Int.not_lt, -Nat.not_le, -Nat.not_lt, ty3, ty4, ty26, ty31, hm, hl, hr, x111, fi211_eq, p111, E89, q89_29, q89_38, n89_8]
      | true =>
        by_cases c1 : y.client < x.client
        · rw [if_pos c1]
          rcases h5 with rfl | rfl
          · simp [-Int.natCast_add, h4, hx, hxe, hlt, hlt2, hy, hye, hlk, hltk, hwk, hne, c1, kk, hw, -Int.not_le, -Int.not_lt, -Nat.not_le, -Nat.not_lt, ty3, ty4, ty26, ty31, hm, hl, hr, x111, fi211_eq, p111, E89, q89_29, q89_38, n89_8]
            exact I1 _ _ _ _ (tame_val _) (.inr rfl)
          · simp [-Int.natCast_add, h4, hx, hxe, hlt, hlt2, hy, hye, hlk, hltk, hwk, hne, c1, kk, hw, -Int.not_le, -Int.not_lt, -Nat.not_le, -Nat.not_lt, ty3, ty4, ty26, ty31, hm, hl, hr, x111, fi211_eq, p111, E89, q89_29, q89_38, n89_8]
            exact I1 _ _ _ _ (tame_val _) (.inr rfl)
        · rw [if_neg c1]
          by_cases c2 : x.client < y.client
          · rcases h5 with rfl | rfl <;> simp [-Int.natCast_add, h4, hx, hxe, hlt, hlt2, hy, hye, hlk, hltk, hwk, hne, c1, c2, kk, hw, hwm, -Int.not_le, -Int.not_lt, -Nat.not_le, -Nat.not_lt, ty3, ty4, ty26, ty31, hm, hl, hr, x111, fi211_eq, p111, E89, q89_29, q89_38, n89_8]
          · by_cases c3 : x.num ≤ y.num
            · rcases h5 with rfl | rfl <;> simp [-Int.natCast_add, h4, hx, hxe, hlt, hlt2, hy, hye, hlk, hltk, hwk, hne, c1, c2, c3, kk, hw, hwm, -Int.not_le, -Int.not_lt, -Nat.not_le, -Nat.not_lt, ty3, ty4, ty26, ty31, hm, hl, hr, x111, fi211_eq, p111, E89, q89_29, q89_38, n89_8]
            · by_cases c4 : y.broker = x.broker
              · by_cases c5 : 3 < many + 1
                · rcases h5 with rfl | rfl <;> simp [-Int.natCast_add, h4, hx, hxe, hlt, hlt2, hy, hye, hlk, hltk, hwk, hne, c1, c2, c3, c4, c5, kk, hw, hwm, -Int.not_le, -Int.not_lt, -Nat.not_le, -Nat.not_lt, ty3, ty4, ty26, ty31, hm, hl, hr, x111, fi211_eq, p111, E89, q89_29, q89_38, n89_8]
                · rcases h5 with rfl | rfl
                  · simp [-Int.natCast_add, h4, hx, hxe, hlt, hlt2, hy, hye, hlk, hltk, hwk, hne, c1, c2, c3, c4, c5, kk, hw, hwm, -Int.not_le, -Int.not_lt, -Nat.not_le, -Nat.not_lt, ty3, ty4, ty26, ty31, hm, hl, hr, x111, fi211_eq, p111, E89, q89_29, q89_38, n89_8]
                    exact I2 _ _ _ _ (tame_val _) (.inr rfl)
                  · simp [-Int.natCast_add, h4, hx, hxe, hlt, hlt2, hy, hye, hlk, hltk, hwk, hne, c1, c2, c3, c4, c5, kk, hw, hwm, -Int.not_le, -Int.not_lt, -Nat.not_le, -Nat.not_lt, ty3, ty4, ty26, ty31, hm, hl, hr, x111, fi211_eq, p111, E89, q89_29, q89_38, n89_8]
                    exact I2 _ _ _ _ (tame_val _) (.inr rfl)
              · rcases h5 with rfl | rfl <;> simp [-Int.natCast_add, h4, hx, hxe, hlt, hlt2, hy, hye, hlk, hltk, hwk, hne, c1, c2, c3, c4, kk, hw, hwm, -Int.not_le, -Int.not_lt, -Nat.not_le, -Nat.not_lt, ty3, ty4, ty26, ty31, hm, hl, hr, x111, fi211_eq, p111, E89, q89_29, q89_38, n89_8]
set_option maxHeartbeats 8000000 in
theorem c89 (l : List Sub) (hl1 : ∀ s ∈ l, POk s.filter) (hl2 : l.length < 1000000) (st : St) : EvF gS 89 [.slice (encSubs l)] st = some (.ret (.bool (rightS l)) none, st) := by
  refine EvF_start fi212_eq (fun x h => by cases h) m89 ?_
  rw [st89]
  have hm : fi89.marks = [] := rfl
  have hl : fi89.locals = [5] := rfl
  have hr : fi89.results = [.tmp 2] := rfl
  have LL := fun e4 e5 T X h4 h5 => L89 l hl1 hl2 st l.length 0 0 e4 e5 T X h4 h5 (by omega) (by omega) (Nat.zero_le _) rfl
  rw [show ((0 : Nat) : Int) = 0 from rfl, show rsG (prevS l 0) 0 (l.drop 0) = rightS l from rfl] at LL
  simp [-Int.not_le, -Int.not_lt, -Nat.not_le, -Nat.not_lt, ty3, ty4, ty26, ty31, hm, hl, hr, x111, fi211_eq, p111, E89, q89_29, q89_38, n89_8]
  refine LL _ _ _ _ ?_ (.inl rfl)
  all_goals simp
theorem k89 (l : List Sub) (hl1 : ∀ s ∈ l, POk s.filter) (hl2 : l.length < 1000000) (fr : Fr) (st : St) : callStep gS (EvF gS) 89 [.slice (encSubs l)] fr st = some (.ok (.val (.bool (rightS l))) fr st) :=
  call_pure rfl fi212_eq rfl (fun st => c89 l hl1 hl2 st) (by simp [V.flat])
end
end Go.Proofs.Ytdoobejjedpcgaa
namespace Go.Proofs.Ytdoobejjedpcgaa
open Go Go.Ab
set_option linter.unusedVariables false
set_option linter.unusedSimpArgs false
set_option linter.unnecessarySimpa false
set_option maxRecDepth 20000
noncomputable section
variable (fr : Fr) (st : St) (k : Kt)
def fi59 : FI := { body := codeOf Try.f59, ntmps := 37, results := [.cell 4 96, .tmp 5], pers := [0, 1, 4, 5, 6, 8, 18, 19, 20], locals := [4, 6, 8], pure := true, marks := [] }
theorem fi215_eq : gS.fn 59 = some fi59 := by kernel_rfl
theorem st59 (a0 a1 : V) : startFr fi59 [a0, a1] = { ps := [(0, .val a0), (1, .val a1), (4, .any), (5, .any), (6, .any), (8, .any), (18, .any), (19, .any), (20, .any)], ts := [], lc := [] } := rfl
def b59 : Code := mini (codeOf Try.f59)
def c59_8 : Code := .seq (codeN b59 75) .ret
def c59_7 : Code := .cond (.tmp 16) c59_8 .skip
def c59_5 : Code := .seq (codeN b59 19) c59_7
def c59_31 : Code := .seq (codeN b59 76183) .ret
def c59_30 : Code := .cond (.tmp 28) c59_31 .skip
def c59_28 : Code := .seq (codeN b59 18839) c59_30
def c59_35 : Code := codeN b59 14743
def c59_27 : Code := .seq c59_28 c59_35
def c59_25 : Code := .seq (codeN b59 4503) c59_27
def c59_36 : Code := codeN b59 1943
def c59_23 : Code := .seq (.block 1 c59_25) c59_36
def c59_19 : Code := .seq (.cond (.tmp 21) .skip (.exit 0)) c59_23
def c59_17 : Code := .seq (codeN b59 279) c59_19
def c59_16 : Code := .loop c59_17
def c59_15 : Code := .block 0 c59_16
def c59_13 : Code := .seq (codeN b59 39) c59_15
def c59_37 : Code := .seq (codeN b59 47) .ret
def c59_12 : Code := .seq c59_13 c59_37
def c59_4 : Code := .seq c59_5 c59_12
def c59_2 : Code := .seq (codeN b59 5) c59_4
def c59_0 : Code := .seq (codeN b59 2) c59_2
theorem E59 : (evK gS fi59 c59_8 fr st k = opsR gS fi59 [ld 17 96 6 96,
 sto 96 4 17,
 op1 5 (.assign (.const (.bool false))) 4] fr st (.seq .ret k)) ∧
 evK gS fi59 c59_7 fr st k = condK gS fi59 (fr.op (.tmp 16)).bool? c59_8 .skip fr st k ∧
 (evK gS fi59 c59_5 fr st k = opsR gS fi59 [mv 9 0 22,
 cal 10 88 [(.tmp 9)] [22] 4,
 op1 11 (.unOp .not 4 (.tmp 10)) 4,
 mv 12 11 4,
 mk (some 13) (.move (.tmp 1)) 26 (some (3, false)),
 mk (some 14) (.call { callee := (.value (.func 89)), args := #[(.tmp 13)], argTypes := #[26] }) 4 (some (3, false)),
 mk (some 15) (.unOp .not 4 (.tmp 14)) 4 (some (3, false)),
 op1 16 (.pick (.tmp 12) (.const (.bool true)) (.tmp 15)) 4] fr st (.seq c59_7 k)) ∧
 (evK gS fi59 c59_31 fr st k = opsR gS fi59 [ld 29 96 6 96,
 sto 96 4 29,
 op1 5 (.assign (.const (.bool false))) 4] fr st (.seq .ret k)) ∧
 evK gS fi59 c59_30 fr st k = condK gS fi59 (fr.op (.tmp 28)).bool? c59_31 .skip fr st k ∧
 (evK gS fi59 c59_28 fr st k = opsR gS fi59 [op1 24 (.fieldAddr 31 (.tmp 8) 1) 0,
 ld 25 3 24 3,
 mv 26 0 22,
 len1 27 26 22 3,
 bop 28 .gtr 3 25 27 3 4] fr st (.seq c59_30 k)) ∧
 (evK gS fi59 c59_35 fr st k = opsR gS fi59 [op1 30 (.fieldAddr 31 (.tmp 8) 0) 0,
 ld 31 3 30 3,
 op1 32 (.fieldAddr 31 (.tmp 8) 1) 0,
 ld 33 3 32 3,
 ixa 34 96 6 31 0,
 sto 3 34 33] fr st k) ∧
 evK gS fi59 c59_27 fr st k = evK gS fi59 c59_28 fr st (.seq c59_35 k) ∧
 (evK gS fi59 c59_25 fr st k = opsR gS fi59 [ixa 22 26 18 20 0,
 ld 23 31 22 31,
 op1 8 (.alloc 31) 0,
 sto 31 8 23] fr st (.seq c59_27 k)) ∧
 (evK gS fi59 c59_36 fr st k = opsR gS fi59 [op1 35 (.binOp .add 3 (.tmp 20) (.const (.int .i64 1)) 3) 3,
 mv 20 35 3] fr st k) ∧
 evK gS fi59 c59_23 fr st k = evK gS fi59 c59_25 fr st (.blk 1 (.seq c59_36 k)) ∧
 evK gS fi59 c59_19 fr st k = condK gS fi59 (fr.op (.tmp 21)).bool? .skip (.exit 0) fr st (.seq c59_23 k) ∧
 evK gS fi59 c59_17 fr st k = opsR gS fi59 [bop 21 .lss 3 20 19 3 0] fr st (.seq c59_19 k) ∧
 evK gS fi59 c59_15 fr st k = evK gS fi59 c59_16 fr st (.blk 0 k) ∧
 (evK gS fi59 c59_13 fr st k = opsR gS fi59 [mv 18 1 26,
 len1 19 18 26 3,
 op1 20 (.move (.const (.int .i64 0))) 3] fr st (.seq c59_15 k)) ∧
 (evK gS fi59 c59_37 fr st k = opsR gS fi59 [ld 36 96 6 96,
 sto 96 4 36,
 op1 5 (.assign (.const (.bool true))) 4] fr st (.seq .ret k)) ∧
 evK gS fi59 c59_12 fr st k = evK gS fi59 c59_13 fr st (.seq c59_37 k) ∧
 evK gS fi59 c59_4 fr st k = evK gS fi59 c59_5 fr st (.seq c59_12 k) ∧
 evK gS fi59 c59_2 fr st k = opsR gS fi59 [op1 6 (.alloc 96) 0] fr st (.seq c59_4 k) ∧
 (evK gS fi59 c59_0 fr st k = opsR gS fi59 [op1 4 (.alloc 96) 0,
 op1 5 (.assign (.const (.bool false))) 4] fr st (.seq c59_2 k)) := ⟨evK_rs 3 rfl (by kernel_rfl), rfl, evK_rs 2 rfl (by kernel_rfl), evK_rs 8 rfl (by kernel_rfl), rfl, evK_rs 7 rfl (by kernel_rfl), evK_r 9 (by kernel_rfl), rfl, evK_rs 6 rfl (by kernel_rfl), evK_r 10 (by kernel_rfl), rfl, rfl, evK_rs 5 rfl (by kernel_rfl), rfl, evK_rs 4 rfl (by kernel_rfl), evK_rs 11 rfl (by kernel_rfl), rfl, rfl, evK_rs 1 rfl (by kernel_rfl), evK_rs 0 rfl (by kernel_rfl)⟩
theorem m59 : mini fi59.body = c59_0 := by kernel_rfl
theorem n59_16 (fr : Fr) (st : St) (k : Kt) : nextK gS fi59 (.loop c59_17 k) .normal fr st = evK gS fi59 c59_16 fr st k := rfl
theorem ints_splice {hm : List Int} {k : Nat} (h : k < hm.length) (b : Int) : splice (intVs hm) k [.int .i64 b] = some (intVs (hm.set k b)) := by
  unfold splice
  rw [if_pos (by simp; omega), intVs, intVs, List.map_set, List.set_eq_take_append_cons_drop, if_pos (by simp; omega)]
  simp
set_option maxHeartbeats 8000000 in
theorem L59 (p : List Int) (hp1 : p.length < 1000) (l : List Sub) (hl1 : ∀ s ∈ l, mayS s = true) (hl2 : l.length < 1000000) (st : St) : ∀ (m i : Nat) (hm0 : List Int) (e8 : E) (T : List (Nat × E)) (X : List (Nat × List V)), hm0.length = 7 → e8 = .any ∨ e8 = .lp 8 0 → (∃ z : List Int, z.length = 7 ∧ lk X 4 = some (intVs z)) → lk X 6 = some (intVs hm0) → i ≤ l.length → l.length - i = m →
    evK gS fi59 c59_16 { ps := [(0, .val (.slice (intVs p))), (1, .val (.slice (encSubs l))), (4, .lp 4 0), (5, .val (.bool false)), (6, .lp 6 0), (8, e8), (18, .val (.slice (encSubs l))), (19, .val (.int .i64 l.length)), (20, .val (.int .i64 (i : Nat)))], ts := T, lc := X } st (.blk 0 (.seq c59_37 .nil)) = some (.ret (.tuple [.agg (intVs (homesG p (l.drop i) hm0).1), .bool (homesG p (l.drop i) hm0).2]) none, st) := by
  intro m
  have hm : fi59.marks = [] := rfl
  have hl : fi59.locals = [4, 6, 8] := rfl
  have hr : fi59.results = [.cell 4 96, .tmp 5] := rfl
  induction m with
  | zero =>
    intro i hm0 e8 T X hh h8 h4 h6 hi hm2
    obtain ⟨z, hz, hz4⟩ := h4
    obtain rfl : i = l.length := by omega
    rw [List.drop_length, show homesG p [] hm0 = (hm0, true) from rfl]
    have f1 : (intVs hm0).length = 7 := by simp [hh]
    have f2 : (intVs z).length = 7 := by simp [hz]
    have f3 : (intVs hm0).take 7 = intVs hm0 := List.take_of_length_le (by simp [hh])
    have f4 := ints_strip hm0
    have f5 := ints_one hm0
    have f6 : splice (intVs z) 0 (intVs hm0) = some (intVs hm0) := by unfold splice; rw [if_pos (by simp [hz, hh])]; simp [hz, hh]
    have f7 := fun s => frz_flat 6 s (.tuple [.agg (intVs hm0), .bool true]) (by simp [V.flat, flats])
    generalize intVs hm0 = H at *
    generalize intVs z = Z at *
    refine evK_loop c59_17 _ _ _ _ rfl ?_
    have f8 : ∀ a b c d e f g h : V, splice [a, b, c, d] 0 [e, f, g, h] = some [e, f, g, h] := fun _ _ _ _ _ _ _ _ => rfl
    rcases h8 with rfl | rfl <;> simp [-splice, f8, f1, f2, f3, f4, f5, f6, hz4, h6, lk_lset_self _ _ _ _ hz4, -Int.not_le, -Int.not_lt, -Nat.not_le, -Nat.not_lt, ty3, ty4, ty22, ty26, ty31, ty96, hm, hl, hr, E59, n59_16]
  | succ m ih =>
    intro i hm0 e8 T X hh h8 h4 h6 hi hm2
    obtain ⟨x, hx⟩ : ∃ x, l[i]? = some x := ⟨l[i]'(by omega), List.getElem?_eq_getElem (by omega)⟩
    have hlt : (i : Int) < (l.length : Int) := by omega
    obtain ⟨hlt2, hxe⟩ := List.getElem?_eq_some_iff.1 hx
    have hw : IntKind.wrap .i64 ((i : Int) + 1) = ((i + 1 : Nat) : Int) := by rw [wrap64 (by omega) (by omega)]; omega
    have hmx := may_client (hl1 x (List.mem_of_getElem? hx))
    obtain ⟨cl, hcl⟩ : ∃ cl : Nat, x.client = (cl : Int) := ⟨x.client.toNat, by omega⟩
    have c7 : cl < 7 := by omega
    have c7i : (cl : Int) < 7 := by omega
    rw [drop_get hx, show homesG p (x :: l.drop (i + 1)) hm0 = if (p.length : Int) < x.broker then (hm0, false) else homesG p (l.drop (i + 1)) (hm0.set x.client.toNat x.broker) from rfl]
    have hsp := ints_splice (hm := hm0) (k := cl) (by omega) x.broker
    rw [hcl, Int.toNat_natCast]
    have f8 : ∀ a b c d e f g h : V, splice [a, b, c, d] 0 [e, f, g, h] = some [e, f, g, h] := fun _ _ _ _ _ _ _ _ => rfl
    refine evK_loop c59_17 _ _ _ _ rfl ?_
    by_cases hb : (p.length : Int) < x.broker
    · rw [if_pos hb]
      obtain ⟨z, hz, hz4⟩ := h4
      have f1 : (intVs hm0).length = 7 := by simp [hh]
      have f2 : (intVs z).length = 7 := by simp [hz]
      have f3 : (intVs hm0).take 7 = intVs hm0 := List.take_of_length_le (by simp [hh])
      have f4 := ints_strip hm0
      have f5 := ints_one hm0
      have f6 : splice (intVs z) 0 (intVs hm0) = some (intVs hm0) := by unfold splice; rw [if_pos (by simp [hz, hh])]; simp [hz, hh]
      generalize intVs hm0 = H at *
      generalize intVs z = Z at *
      have g4 := lk_lset_self (X.filter fun x => !(x.1 == 8)) 4 Z H (by simp [hz4])
      rcases h8 with rfl | rfl <;> simp [-splice, f8, g4, -Int.natCast_add, hx, hxe, hlt, hlt2, hb, f1, f2, f3, f4, f5, f6, hz4, h6, hcl, -Int.not_le, -Int.not_lt, -Nat.not_le, -Nat.not_lt, ty3, ty4, ty22, ty26, ty31, ty96, hm, hl, hr, E59, n59_16]
    · rw [if_neg hb]
      have IH := fun e8 T X h8 h4 h6 => ih (i + 1) (hm0.set cl x.broker) e8 T X (by simpa using hh) h8 h4 h6 (by omega) (by omega)
      have f1 : (intVs hm0).length = 7 := by simp [hh]
      generalize intVs (hm0.set cl x.broker) = H2 at *
      generalize intVs hm0 = H at *
      rcases h8 with rfl | rfl
      · simp [-splice, f8, -Int.natCast_add, hx, hxe, hlt, hlt2, hb, f1, hsp, h6, hcl, c7, c7i, hw, -Int.not_le, -Int.not_lt, -Nat.not_le, -Nat.not_lt, ty3, ty4, ty22, ty26, ty31, ty96, hm, hl, hr, E59, n59_16]
        refine IH _ _ _ (.inr rfl) ?_ ?_
        · obtain ⟨z, hz, hz4⟩ := h4; exact ⟨z, hz, by simp [hz4]⟩
        · exact lk_lset_self (X.filter fun x => !(x.1 == 8)) 6 H H2 (by simp [h6])
      · simp [-splice, f8, -Int.natCast_add, hx, hxe, hlt, hlt2, hb, f1, hsp, h6, hcl, c7, c7i, hw, -Int.not_le, -Int.not_lt, -Nat.not_le, -Nat.not_lt, ty3, ty4, ty22, ty26, ty31, ty96, hm, hl, hr, E59, n59_16]
        refine IH _ _ _ (.inr rfl) ?_ ?_
        · obtain ⟨z, hz, hz4⟩ := h4; exact ⟨z, hz, by simp [hz4]⟩
        · exact lk_lset_self (X.filter fun x => !(x.1 == 8)) 6 H H2 (by simp [h6])
set_option maxHeartbeats 8000000 in
theorem c59 (p : List Int) (hp1 : p.length < 1000) (l : List Sub) (hl1 : ∀ s ∈ l, POk s.filter) (hl2 : l.length < 1000000) (st : St) : EvF gS 59 [.slice (intVs p), .slice (encSubs l)] st = some (.ret (.tuple [.agg (intVs (homesT p l).1), .bool (homesT p l).2]) none, st) := by
  refine EvF_start fi215_eq (fun x h => by cases h) m59 ?_
  rw [st59]
  have hm : fi59.marks = [] := rfl
  have hl : fi59.locals = [4, 6, 8] := rfl
  have hr : fi59.results = [.cell 4 96, .tmp 5] := rfl
  have k1 := fun fr st => k88 p (by omega) fr st
  have k2 := fun fr st => k89 l hl1 hl2 fr st
  unfold homesT
  have hz0 : intVs home0 = [.int .i64 0, .int .i64 0, .int .i64 0, .int .i64 0, .int .i64 0, .int .i64 0, .int .i64 0] := rfl
  cases h1 : rightT p with
  | false => rw [h1] at k1; simp [k1, hz0, -Int.not_le, -Int.not_lt, -Nat.not_le, -Nat.not_lt, ty3, ty4, ty22, ty26, ty31, ty96, hm, hl, hr, E59, n59_16]
  | true =>
    cases h2 : rightS l with
    | false => rw [h1] at k1; rw [h2] at k2; simp [k1, k2, hz0, -Int.not_le, -Int.not_lt, -Nat.not_le, -Nat.not_lt, ty3, ty4, ty22, ty26, ty31, ty96, hm, hl, hr, E59, n59_16]
    | true =>
      rw [h1] at k1; rw [h2] at k2
      have LL := fun e8 T X h8 h4 h6 => L59 p hp1 l (rsG_may l none 0 h2) hl2 st l.length 0 home0 e8 T X rfl h8 h4 h6 (Nat.zero_le _) rfl
      rw [show ((0 : Nat) : Int) = 0 from rfl, List.drop_zero, hz0] at LL
      simp [k1, k2, -Int.not_le, -Int.not_lt, -Nat.not_le, -Nat.not_lt, ty3, ty4, ty22, ty26, ty31, ty96, hm, hl, hr, E59, n59_16]
      refine LL _ _ _ (.inl rfl) ⟨home0, rfl, ?_⟩ ?_
      · rw [hz0]; simp
      · simp
theorem k59 (p : List Int) (hp1 : p.length < 1000) (l : List Sub) (hl1 : ∀ s ∈ l, POk s.filter) (hl2 : l.length < 1000000) (fr : Fr) (st : St) : callStep gS (EvF gS) 59 [.slice (intVs p), .slice (encSubs l)] fr st = some (.ok (.val (.tuple [.agg (intVs (homesT p l).1), .bool (homesT p l).2])) fr st) :=
  call_pure rfl fi215_eq rfl (fun st => c59 p hp1 l hl1 hl2 st) (by simp [V.flat])
end
end Go.Proofs.Ytdoobejjedpcgaa
namespace Go.Proofs.Ytdoobejjedpcgaa
open Go Go.Ab
set_option linter.unusedVariables false
set_option linter.unusedSimpArgs false
set_option linter.unnecessarySimpa false
set_option maxRecDepth 20000
noncomputable section
variable (fr : Fr) (st : St) (k : Kt)
def fi27 : FI := { body := codeOf Try.f27, ntmps := 66, results := [.tmp 4], pers := [0, 1, 4, 5, 6, 7, 8, 9, 10, 11, 13, 26, 27, 40, 41, 42], locals := [6], pure := true, marks := [1000000] }
theorem fi219_eq : gS.fn 27 = some fi27 := by kernel_rfl
theorem st27 (a0 a1 : V) : startFr fi27 [a0, a1] = { ps := [(0, .val a0), (1, .val a1), (4, .any), (5, .any), (6, .any), (7, .any), (8, .any), (9, .any), (10, .any), (11, .any), (13, .any), (26, .any), (27, .any), (40, .any), (41, .any), (42, .any)], ts := [], lc := [] } := rfl
def b27 : Code := mini (codeOf Try.f27)
def c27_10 : Code := .seq (codeN b27 151) .ret
def c27_9 : Code := .cond (.tmp 21) c27_10 .skip
def c27_7 : Code := .seq (codeN b27 39) c27_9
def c27_38 : Code := .cond (.tmp 34) .skip (.exit 2)
def c27_36 : Code := .seq (codeN b27 550495) c27_38
def c27_60 : Code := codeN b27 1716676191
def c27_58 : Code := .seq (codeN b27 1179805279) c27_60
def c27_61 : Code := codeN b27 508716639
def c27_56 : Code := .seq (.block 5 c27_58) c27_61
def c27_52 : Code := .seq (.cond (.tmp 43) .skip (.exit 4)) c27_56
def c27_50 : Code := .seq (codeN b27 72509023) c27_52
def c27_49 : Code := .loop c27_50
def c27_48 : Code := .block 4 c27_49
def c27_46 : Code := .seq (codeN b27 9594463) c27_48
def c27_65 : Code := codeN b27 24274527
def c27_64 : Code := .cond (.tmp 55) c27_65 .skip
def c27_62 : Code := .seq (codeN b27 11691615) c27_64
theorem e27_62 : evK gS fi27 c27_62 fr st k = opsR gS fi27 [mv 53 11 22,
 len1 54 53 22 3,
 op1 55 (.binOp .gtr 3 (.tmp 54) (.const (.int .i64 0)) 3) 4] fr st (.seq c27_64 k) := evK_rs 18 rfl (by kernel_rfl)
def c27_45 : Code := .seq c27_46 c27_62
def c27_43 : Code := .seq (codeN b27 2254431) c27_45
def c27_67 : Code := codeN b27 943711
def c27_41 : Code := .seq (.block 3 c27_43) c27_67
def c27_35 : Code := .seq c27_36 c27_41
def c27_34 : Code := .loop c27_35
def c27_33 : Code := .block 2 c27_34
def c27_31 : Code := .seq (codeN b27 42591) c27_33
def c27_29 : Code := .seq (codeN b27 18015) c27_31
def c27_68 : Code := codeN b27 7775
theorem e27_68 : evK gS fi27 c27_68 fr st k = opsR gS fi27 [op1 64 (.binOp .add 3 (.tmp 27) (.const (.int .i64 1)) 3) 3,
 mv 27 64 3] fr st k := evK_r 20 (by kernel_rfl)
def c27_27 : Code := .seq (.block 1 c27_29) c27_68
def c27_23 : Code := .seq (.cond (.tmp 28) .skip (.exit 0)) c27_27
def c27_21 : Code := .seq (codeN b27 1119) c27_23
def c27_20 : Code := .loop c27_21
def c27_19 : Code := .block 0 c27_20
def c27_17 : Code := .seq (codeN b27 159) c27_19
def c27_69 : Code := .seq (codeN b27 191) .ret
def c27_16 : Code := .seq c27_17 c27_69
def c27_14 : Code := .seq (codeN b27 47) c27_16
def c27_6 : Code := .seq c27_7 c27_14
def c27_4 : Code := .seq (codeN b27 11) c27_6
def c27_2 : Code := .seq (codeN b27 5) c27_4
def c27_0 : Code := .seq (codeN b27 2) c27_2
theorem E27 : (evK gS fi27 c27_10 fr st k = opsR gS fi27 [mv 22 5 53,
 asn 4 22 53] fr st (.seq .ret k)) ∧
 evK gS fi27 c27_9 fr st k = condK gS fi27 (fr.op (.tmp 21)).bool? c27_10 .skip fr st k ∧
 (evK gS fi27 c27_7 fr st k = opsR gS fi27 [mv 20 7 4,
 op1 21 (.unOp .not 4 (.tmp 20)) 4] fr st (.seq c27_9 k)) ∧
 evK gS fi27 c27_38 fr st k = condK gS fi27 (fr.op (.tmp 34)).bool? .skip (.exit 2) fr st k ∧
 (evK gS fi27 c27_36 fr st k = opsR gS fi27 [mv 31 10 3,
 mv 32 8 32,
 len1 33 32 32 3,
 bop 34 .lss 3 31 33 3 4] fr st (.seq c27_38 k)) ∧
 (evK gS fi27 c27_60 fr st k = opsR gS fi27 [mv 46 11 22,
 mv 47 13 3,
 ixa 48 96 6 47 0,
 ld 49 3 48 3,
 op1 50 (.buildSlice 22 1 #[(0, (.tmp 49))]) 22,
 op1 51 (.call { callee := (.builtin .append), args := #[(.tmp 46), (.tmp 50)], argTypes := #[22, 22] }) 22,
 asn 11 51 22] fr st k) ∧
 (evK gS fi27 c27_58 fr st k = opsR gS fi27 [ixa 44 22 40 42 0,
 ld 45 3 44 3,
 asn 13 45 3] fr st (.seq c27_60 k)) ∧
 (evK gS fi27 c27_61 fr st k = opsR gS fi27 [op1 52 (.binOp .add 3 (.tmp 42) (.const (.int .i64 1)) 3) 3,
 mv 42 52 3] fr st k) ∧
 evK gS fi27 c27_56 fr st k = evK gS fi27 c27_58 fr st (.blk 5 (.seq c27_61 k)) ∧
 evK gS fi27 c27_52 fr st k = condK gS fi27 (fr.op (.tmp 43)).bool? .skip (.exit 4) fr st (.seq c27_56 k) ∧
 evK gS fi27 c27_50 fr st k = opsR gS fi27 [bop 43 .lss 3 42 41 3 0] fr st (.seq c27_52 k) ∧
 evK gS fi27 c27_48 fr st k = evK gS fi27 c27_49 fr st (.blk 4 k) ∧
 (evK gS fi27 c27_46 fr st k = opsR gS fi27 [mv 37 8 32,
 mv 38 9 3,
 mv 39 10 3,
 cal 40 22 [(.tmp 37), (.tmp 38), (.tmp 39)] [32, 3, 3] 22,
 len1 41 40 22 3,
 op1 42 (.move (.const (.int .i64 0))) 3] fr st (.seq c27_48 k)) ∧
 (evK gS fi27 c27_65 fr st k = opsR gS fi27 [mv 56 5 53,
 mv 57 9 3,
 mv 58 10 3,
 mv 59 0 22,
 mv 60 11 22,
 cal 61 34 [(.tmp 59), (.tmp 60)] [22, 22] 3,
 op1 62 (.build 59 #[(0, (.tmp 57)), (1, (.tmp 58)), (2, (.tmp 61))]) 59,
 cal 63 60 [(.tmp 56), (.tmp 62)] [53, 59] 53,
 asn 5 63 53] fr st k) ∧
 evK gS fi27 c27_64 fr st k = condK gS fi27 (fr.op (.tmp 55)).bool? c27_65 .skip fr st k ∧
 evK gS fi27 c27_45 fr st k = evK gS fi27 c27_46 fr st (.seq c27_62 k) ∧
 evK gS fi27 c27_43 fr st k = opsR gS fi27 [op1 11 (.assign (.const (.slice none 0 0))) 22] fr st (.seq c27_45 k) ∧
 (evK gS fi27 c27_67 fr st k = opsR gS fi27 [mv 35 10 3,
 op1 36 (.binOp .add 3 (.tmp 35) (.const (.int .i64 1)) 3) 3,
 asn 10 36 3] fr st k) ∧
 evK gS fi27 c27_41 fr st k = evK gS fi27 c27_43 fr st (.blk 3 (.seq c27_67 k)) ∧
 evK gS fi27 c27_35 fr st k = evK gS fi27 c27_36 fr st (.seq c27_41 k) ∧
 evK gS fi27 c27_33 fr st k = evK gS fi27 c27_34 fr st (.blk 2 k) ∧
 (evK gS fi27 c27_31 fr st k = opsR gS fi27 [mv 30 9 3,
 asn 10 30 3] fr st (.seq c27_33 k)) ∧
 (evK gS fi27 c27_29 fr st k = opsR gS fi27 [mv 29 27 3,
 asn 9 29 3] fr st (.seq c27_31 k)) ∧
 evK gS fi27 c27_27 fr st k = evK gS fi27 c27_29 fr st (.blk 1 (.seq c27_68 k)) ∧
 evK gS fi27 c27_23 fr st k = condK gS fi27 (fr.op (.tmp 28)).bool? .skip (.exit 0) fr st (.seq c27_27 k) ∧
 evK gS fi27 c27_21 fr st k = opsR gS fi27 [bop 28 .lss 3 27 26 3 0] fr st (.seq c27_23 k) ∧
 evK gS fi27 c27_19 fr st k = evK gS fi27 c27_20 fr st (.blk 0 k) ∧
 (evK gS fi27 c27_17 fr st k = opsR gS fi27 [mv 25 8 32,
 len1 26 25 32 3,
 op1 27 (.move (.const (.int .i64 0))) 3] fr st (.seq c27_19 k)) ∧
 (evK gS fi27 c27_69 fr st k = opsR gS fi27 [mv 65 5 53,
 asn 4 65 53] fr st (.seq .ret k)) ∧
 evK gS fi27 c27_16 fr st k = evK gS fi27 c27_17 fr st (.seq c27_69 k) ∧
 (evK gS fi27 c27_14 fr st k = opsR gS fi27 [mv 23 1 26,
 cal 24 12 [(.tmp 23)] [26] 32,
 asn 8 24 32] fr st (.seq c27_16 k)) ∧
 evK gS fi27 c27_6 fr st k = evK gS fi27 c27_7 fr st (.seq c27_14 k) ∧
 (evK gS fi27 c27_4 fr st k = opsR gS fi27 [mv 15 0 22,
 mv 16 1 26,
 cal 17 59 [(.tmp 15), (.tmp 16)] [22, 26] 97,
 mv 14 17 97,
 op1 18 (.extract (.tmp 14) 0) 96,
 op1 19 (.extract (.tmp 14) 1) 4,
 op1 6 (.alloc 96) 0,
 sto 96 6 18,
 asn 7 19 4] fr st (.seq c27_6 k)) ∧
 evK gS fi27 c27_2 fr st k = opsR gS fi27 [op1 5 (.assign (.const (.slice none 0 0))) 53] fr st (.seq c27_4 k) ∧
 evK gS fi27 c27_0 fr st k = opsR gS fi27 [op1 4 (.assign (.const (.slice none 0 0))) 53] fr st (.seq c27_2 k) := ⟨evK_rs 4 rfl (by kernel_rfl), rfl, evK_rs 3 rfl (by kernel_rfl), rfl, evK_rs 10 rfl (by kernel_rfl), evK_r 16 (by kernel_rfl), evK_rs 15 rfl (by kernel_rfl), evK_r 17 (by kernel_rfl), rfl, rfl, evK_rs 14 rfl (by kernel_rfl), rfl, evK_rs 13 rfl (by kernel_rfl), evK_r 19 (by kernel_rfl), rfl, rfl, evK_rs 12 rfl (by kernel_rfl), evK_r 11 (by kernel_rfl), rfl, rfl, rfl, evK_rs 9 rfl (by kernel_rfl), evK_rs 8 rfl (by kernel_rfl), rfl, rfl, evK_rs 7 rfl (by kernel_rfl), rfl, evK_rs 6 rfl (by kernel_rfl), evK_rs 21 rfl (by kernel_rfl), rfl, evK_rs 5 rfl (by kernel_rfl), rfl, evK_rs 2 rfl (by kernel_rfl), evK_rs 1 rfl (by kernel_rfl), evK_rs 0 rfl (by kernel_rfl)⟩
theorem m27 : mini fi27.body = c27_0 := by kernel_rfl
theorem n27_49 (fr : Fr) (st : St) (k : Kt) : nextK gS fi27 (.loop c27_50 k) .normal fr st = evK gS fi27 c27_49 fr st k := rfl
theorem n27_34 (fr : Fr) (st : St) (k : Kt) : nextK gS fi27 (.loop c27_35 k) .normal fr st = evK gS fi27 c27_34 fr st k := rfl
theorem n27_20 (fr : Fr) (st : St) (k : Kt) : nextK gS fi27 (.loop c27_21 k) .normal fr st = evK gS fi27 c27_20 fr st k := rfl
theorem splice_all {cs H : List V} (h : H.length = cs.length) : splice cs 0 H = some H := by
  unfold splice
  rw [if_pos (by omega)]
  simp [h]
/-- A row of atoms as it is handed on. -/
def OutA (e : E) (l : List Atom) : Prop := (e = .own 0 [] ∧ l = []) ∨ e = .val (.slice (encAtoms l))
theorem OutA.firm {e : E} {l : List Atom} (h : OutA e l) : e.Firm := by rcases h with ⟨rfl, _⟩ | rfl <;> rfl
set_option maxHeartbeats 8000000 in
theorem L27_49 (p : List Int) (hpl : p.length < 1000) (l : List Sub) (hm0 : List Int) (hh : hm0.length = 7) (g : List Grp) (hg1 : ∀ x ∈ g, x.clients.length < 1000 ∧ ∀ c ∈ x.clients, 1 ≤ c ∧ c ≤ 6) (hg2 : g.length ≤ 500) (st : St) (R : Out × St) (a b : Nat) (cs : List Int) (hcs : cs.length < 1000) (hcr : ∀ c ∈ cs, 1 ≤ c ∧ c ≤ 6) (e5 : E) (h5 : e5.Firm) (fin : List Int)
    (H : ∀ (e13 : E) (T : List (Nat × E)) (X : List (Nat × List V)), e13.Tame → lk X 6 = some (intVs hm0) → evK gS fi27 c27_62 { ps := [(0, .val (.slice (intVs p))), (1, .val (.slice (encSubs l))), (4, .own 0 []), (5, e5), (6, .lp 6 0), (7, .val (.bool true)), (8, .val (.slice (encGrps g))), (9, .val (.int .i64 (a : Nat))), (10, .val (.int .i64 (b : Nat))), (11, .own (kof 1 fin) (intVs fin)), (13, e13), (26, .val (.int .i64 g.length)), (27, .val (.int .i64 (a : Nat))), (40, .val (.slice (intVs cs))), (41, .val (.int .i64 cs.length)), (42, .val (.int .i64 cs.length))], ts := T, lc := X } st (.blk 3 (.seq c27_67 (.loop c27_35 (.blk 2 (.blk 1 (.seq c27_68 (.loop c27_21 (.blk 0 (.seq c27_69 .nil))))))))) = some R) :
    ∀ (m i : Nat) (acc : List Int) (e13 : E) (T : List (Nat × E)) (X : List (Nat × List V)), e13.Tame → lk X 6 = some (intVs hm0) → i ≤ cs.length → cs.length - i = m → acc.length ≤ i → fin = acc ++ (cs.drop i).map (fun c => hm0.getD c.toNat 0) →
    evK gS fi27 c27_49 { ps := [(0, .val (.slice (intVs p))), (1, .val (.slice (encSubs l))), (4, .own 0 []), (5, e5), (6, .lp 6 0), (7, .val (.bool true)), (8, .val (.slice (encGrps g))), (9, .val (.int .i64 (a : Nat))), (10, .val (.int .i64 (b : Nat))), (11, .own (kof 1 acc) (intVs acc)), (13, e13), (26, .val (.int .i64 g.length)), (27, .val (.int .i64 (a : Nat))), (40, .val (.slice (intVs cs))), (41, .val (.int .i64 cs.length)), (42, .val (.int .i64 (i : Nat)))], ts := T, lc := X } st (.blk 4 (.seq c27_62 (.blk 3 (.seq c27_67 (.loop c27_35 (.blk 2 (.blk 1 (.seq c27_68 (.loop c27_21 (.blk 0 (.seq c27_69 .nil))))))))))) = some R := by
  intro m
  have hm : fi27.marks = [1000000] := rfl
  have hl : fi27.locals = [6] := rfl
  have hr : fi27.results = [.tmp 4] := rfl
  induction m with
  | zero =>
    intro i acc e13 T X h13 h6 hi hm2 ha hf
    obtain rfl : i = cs.length := by omega
    rw [List.drop_length, List.map_nil, List.append_nil] at hf
    subst hf
    refine evK_loop c27_50 _ _ _ _ rfl ?_
    rcases kof_or 1 fin with ⟨hk, rfl⟩ | hk
    · have en : intVs [] = [] := rfl
      rw [hk, en] at H
      rw [hk, en]
      simp [-Int.natCast_add, h5, h13, -Int.not_le, -Int.not_lt, -Nat.not_le, -Nat.not_lt, ty3, ty4, ty22, ty26, ty32, ty53, ty59, ty96, eq59, hm, hl, hr, E27, e27_68, n27_49, n27_34, n27_20]
      exact H _ _ _ h13 h6
    · rw [hk] at H
      rw [hk]
      simp [-Int.natCast_add, h5, h13, -Int.not_le, -Int.not_lt, -Nat.not_le, -Nat.not_lt, ty3, ty4, ty22, ty26, ty32, ty53, ty59, ty96, eq59, hm, hl, hr, E27, e27_68, n27_49, n27_34, n27_20]
      exact H _ _ _ h13 h6
  | succ m ih =>
    intro i acc e13 T X h13 h6 hi hm2 ha hf
    obtain ⟨x, hx⟩ : ∃ x, cs[i]? = some x := ⟨cs[i]'(by omega), List.getElem?_eq_getElem (by omega)⟩
    have hlt : (i : Int) < (cs.length : Int) := by omega
    obtain ⟨hlt2, hxe⟩ := List.getElem?_eq_some_iff.1 hx
    have hw : IntKind.wrap .i64 ((i : Int) + 1) = ((i + 1 : Nat) : Int) := by rw [wrap64 (by omega) (by omega)]; omega
    have hxr := hcr x (List.mem_of_getElem? hx)
    obtain ⟨k, rfl⟩ : ∃ k : Nat, x = (k : Int) := ⟨x.toNat, by omega⟩
    have k7 : (k : Int) < 7 := by omega
    have k8 : k < 7 := by omega
    obtain ⟨y, hy⟩ : ∃ y, hm0[k]? = some y := ⟨hm0[k]'(by omega), List.getElem?_eq_getElem (by omega)⟩
    have hyd : hm0.getD k 0 = y := by rw [List.getD_eq_getElem?_getD, hy]; rfl
    obtain ⟨y1, y2⟩ := List.getElem?_eq_some_iff.1 hy
    rw [drop_get hx, List.map_cons, Int.toNat_natCast, hyd, List.append_cons acc y] at hf
    have IH := fun e13 T X h13 h6 => ih (i + 1) (acc ++ [y]) e13 T X h13 h6 (by omega) (by omega) (by simp; omega) hf
    rw [kof_snoc] at IH
    have hs1 := sizes_ints acc
    have hs2 := ints_snoc acc y
    have b1 : (acc.length + 1) * 8 ≤ 140737488355328 := by omega
    have b2 : acc.length + 1 ≤ 140737488355328 := by omega
    refine evK_loop c27_50 _ _ _ _ rfl ?_
    rcases kof_or 1 acc with ⟨hk, rfl⟩ | hk
    · have en : intVs [] = [] := rfl
      have en1 : intVs ([] ++ [y]) = [.int .i64 y] := rfl
      rw [en1] at IH
      rw [hk, en]
      simp [-Int.natCast_add, h5, h13, h6, hx, hxe, hlt, hlt2, hw, k7, k8, hy, y1, y2, -Int.not_le, -Int.not_lt, -Nat.not_le, -Nat.not_lt, ty3, ty4, ty22, ty26, ty32, ty53, ty59, ty96, eq59, hm, hl, hr, E27, e27_62, e27_68, n27_49, n27_34, n27_20]
      exact IH _ _ _ (tame_val _) h6
    · rw [hk]
      simp [-Int.natCast_add, -List.append_assoc, h5, h13, h6, hx, hxe, hlt, hlt2, hw, k7, k8, hy, y1, y2, hs1, hs2, b1, b2, -Int.not_le, -Int.not_lt, -Nat.not_le, -Nat.not_lt, ty3, ty4, ty22, ty26, ty32, ty53, ty59, ty96, eq59, hm, hl, hr, E27, e27_62, e27_68, n27_49, n27_34, n27_20]
      exact IH _ _ _ (tame_val _) h6
set_option maxHeartbeats 8000000 in
theorem L27_34 (p : List Int) (hpl : p.length < 1000) (l : List Sub) (hm0 : List Int) (hh : hm0.length = 7) (g : List Grp) (hg1 : ∀ x ∈ g, x.clients.length < 1000 ∧ ∀ c ∈ x.clients, 1 ≤ c ∧ c ≤ 6) (hg2 : g.length ≤ 500) (st : St) (R : Out × St) (a : Nat) (ha : a < g.length) (fin : List Atom)
    (H : ∀ (e5 e11 e13 e40 e41 e42 : E) (T : List (Nat × E)) (X : List (Nat × List V)), OutA e5 fin → e11.Firm → e13.Tame → e40.Tame → e41.Tame → e42.Tame → lk X 6 = some (intVs hm0) → evK gS fi27 c27_68 { ps := [(0, .val (.slice (intVs p))), (1, .val (.slice (encSubs l))), (4, .own 0 []), (5, e5), (6, .lp 6 0), (7, .val (.bool true)), (8, .val (.slice (encGrps g))), (9, .val (.int .i64 (a : Nat))), (10, .val (.int .i64 g.length)), (11, e11), (13, e13), (26, .val (.int .i64 g.length)), (27, .val (.int .i64 (a : Nat))), (40, e40), (41, e41), (42, e42)], ts := T, lc := X } st (.loop c27_21 (.blk 0 (.seq c27_69 .nil))) = some R) :
    ∀ (m b : Nat) (out : List Atom) (e5 e11 e13 e40 e41 e42 : E) (T : List (Nat × E)) (X : List (Nat × List V)), OutA e5 out → e11.Firm → e13.Tame → e40.Tame → e41.Tame → e42.Tame → lk X 6 = some (intVs hm0) → b ≤ g.length → g.length - b = m → out.length + m ≤ 500 * a + 500 → fin = ofB p hm0 g a m b out →
    evK gS fi27 c27_34 { ps := [(0, .val (.slice (intVs p))), (1, .val (.slice (encSubs l))), (4, .own 0 []), (5, e5), (6, .lp 6 0), (7, .val (.bool true)), (8, .val (.slice (encGrps g))), (9, .val (.int .i64 (a : Nat))), (10, .val (.int .i64 (b : Nat))), (11, e11), (13, e13), (26, .val (.int .i64 g.length)), (27, .val (.int .i64 (a : Nat))), (40, e40), (41, e41), (42, e42)], ts := T, lc := X } st (.blk 2 (.blk 1 (.seq c27_68 (.loop c27_21 (.blk 0 (.seq c27_69 .nil)))))) = some R := by
  intro m
  have hm : fi27.marks = [1000000] := rfl
  have hl : fi27.locals = [6] := rfl
  have hr : fi27.results = [.tmp 4] := rfl
  obtain ⟨u, hu⟩ : ∃ u, g[a]? = some u := ⟨g[a]'ha, List.getElem?_eq_getElem ha⟩
  have hug := hg1 u (List.mem_of_getElem? hu)
  induction m with
  | zero =>
    intro b out e5 e11 e13 e40 e41 e42 T X h5 h11 h13 h40 h41 h42 h6 hb hm2 ho hf
    obtain rfl : b = g.length := by omega
    rw [show ofB p hm0 g a 0 g.length out = out from rfl] at hf
    subst hf
    have h5f := h5.firm
    refine evK_loop c27_35 _ _ _ _ rfl ?_
    simp [-Int.natCast_add, h5f, h11, h13, h40, h41, h42, -Int.not_le, -Int.not_lt, -Nat.not_le, -Nat.not_lt, ty3, ty4, ty22, ty26, ty32, ty53, ty59, ty96, eq59, hm, hl, hr, E27, e27_62, n27_49, n27_34, n27_20]
    exact H _ _ _ _ _ _ _ _ h5 h11 h13 h40 h41 h42 h6
  | succ m ih =>
    intro b out e5 e11 e13 e40 e41 e42 T X h5 h11 h13 h40 h41 h42 h6 hb hm2 ho hf
    obtain ⟨v, hv⟩ : ∃ v, g[b]? = some v := ⟨g[b]'(by omega), List.getElem?_eq_getElem (by omega)⟩
    have hvg := hg1 v (List.mem_of_getElem? hv)
    have hlt : (b : Int) < (g.length : Int) := by omega
    have hlt2 : b < g.length := by omega
    have hw : IntKind.wrap .i64 ((b : Int) + 1) = ((b + 1 : Nat) : Int) := by rw [wrap64 (by omega) (by omega)]; omega
    have kb := fun fr st => k22 g a b u v hu hv hug.1 hvg.1 fr st
    have hbl := bothI_len v.clients u.clients []
    have hbm := fun c hc => hug.2 c (by have := (bothI_mem v.clients u.clients [] c).1 hc; simpa using this.resolve_left (by simp) |>.1)
    rw [show ofB p hm0 g a (m + 1) b out = ofB p hm0 g a m (b + 1) (ofStep p hm0 g a b out) from rfl] at hf
    have hst : ofStep p hm0 g a b out = if (bothI v.clients u.clients []).map (fun c => hm0.getD c.toNat 0) = [] then out else layA out ⟨a, b, placeT p ((bothI v.clients u.clients []).map fun c => hm0.getD c.toNat 0)⟩ := by
      unfold ofStep atsOf; rw [hu, hv]; rfl
    rw [hst] at hf
    have hal : ((bothI v.clients u.clients []).map fun c => hm0.getD c.toNat 0).length < 1000 := by rw [List.length_map]; simp at hbl; omega
    have II := fun fin H e13 T X h13 h6 hf => L27_49 p hpl l hm0 hh g hg1 hg2 st R a b (bothI v.clients u.clients []) (by simp at hbl; omega) hbm e5 h5.firm fin H (bothI v.clients u.clients []).length 0 [] e13 T X h13 h6 (Nat.zero_le _) rfl (Nat.le_refl _) hf
    simp only [List.nil_append, List.drop_zero, show kof 1 ([] : List Int) = 0 from rfl, show intVs [] = [] from rfl, show ((0 : Nat) : Int) = 0 from rfl] at II
    generalize bothI v.clients u.clients [] = cs at *
    generalize hat : cs.map (fun c => hm0.getD c.toNat 0) = at1 at *
    have kp := fun fr st => k34 p (by omega) at1 (by omega) fr st
    have kl := fun fr st => k60 out (by omega) ⟨a, b, placeT p at1⟩ fr st
    have hol := layA_len out ⟨a, b, placeT p at1⟩
    have IH := fun out' e5 e11 e13 e40 e41 e42 T X h5 h11 h13 h40 h41 h42 h6 ho hf => ih (b + 1) out' e5 e11 e13 e40 e41 e42 T X h5 h11 h13 h40 h41 h42 h6 (by omega) (by omega) ho hf
    generalize placeT p at1 = pl at *
    have H62 : ∀ (e13 : E) (T : List (Nat × E)) (X : List (Nat × List V)), e13.Tame → lk X 6 = some (intVs hm0) → evK gS fi27 c27_62 { ps := [(0, .val (.slice (intVs p))), (1, .val (.slice (encSubs l))), (4, .own 0 []), (5, e5), (6, .lp 6 0), (7, .val (.bool true)), (8, .val (.slice (encGrps g))), (9, .val (.int .i64 (a : Nat))), (10, .val (.int .i64 (b : Nat))), (11, .own (kof 1 at1) (intVs at1)), (13, e13), (26, .val (.int .i64 g.length)), (27, .val (.int .i64 (a : Nat))), (40, .val (.slice (intVs cs))), (41, .val (.int .i64 cs.length)), (42, .val (.int .i64 cs.length))], ts := T, lc := X } st (.blk 3 (.seq c27_67 (.loop c27_35 (.blk 2 (.blk 1 (.seq c27_68 (.loop c27_21 (.blk 0 (.seq c27_69 .nil))))))))) = some R := by
      intro e13 T X h13 h6
      by_cases hz : at1 = []
      · rw [if_pos hz] at hf
        have I1 := fun e5 e11 e13 e40 e41 e42 T X h5 h11 h13 h40 h41 h42 h6 => IH out e5 e11 e13 e40 e41 e42 T X h5 h11 h13 h40 h41 h42 h6 (by omega) hf
        have h5f := h5.firm
        subst hz
        rw [show kof 1 ([] : List Int) = 0 from rfl, show intVs [] = [] from rfl]
        simp [-Int.natCast_add, h5f, h13, h6, hw, -Int.not_le, -Int.not_lt, -Nat.not_le, -Nat.not_lt, ty3, ty4, ty22, ty26, ty32, ty53, ty59, ty96, eq59, hm, hl, hr, E27, e27_62, e27_68, n27_49, n27_34, n27_20]
        exact I1 _ _ _ _ _ _ _ _ h5 rfl h13 (tame_val _) (tame_val _) (tame_val _) h6
      · rw [if_neg hz] at hf
        have I1 := fun e5 e11 e13 e40 e41 e42 T X h5 h11 h13 h40 h41 h42 h6 => IH _ e5 e11 e13 e40 e41 e42 T X h5 h11 h13 h40 h41 h42 h6 (by omega) hf
        have hk : kof 1 at1 = 1 := by unfold kof; rw [if_neg hz]
        have hz1 : (0 : Int) < (at1.length : Int) := by have := List.length_pos_iff.2 hz; omega
        have hz2 : 0 < at1.length := List.length_pos_iff.2 hz
        rw [hk]
        rcases h5 with ⟨rfl, rfl⟩ | rfl
        · rw [show encAtoms [] = [] from rfl] at kl
          simp [-Int.natCast_add, h13, h6, hw, hz, hz1, hz2, kp, kl, -Int.not_le, -Int.not_lt, -Nat.not_le, -Nat.not_lt, ty3, ty4, ty22, ty26, ty32, ty53, ty59, ty96, eq59, hm, hl, hr, E27, e27_62, e27_68, n27_49, n27_34, n27_20]
          exact I1 _ _ _ _ _ _ _ _ (.inr rfl) rfl h13 (tame_val _) (tame_val _) (tame_val _) h6
        · simp [-Int.natCast_add, h13, h6, hw, hz, hz1, hz2, kp, kl, -Int.not_le, -Int.not_lt, -Nat.not_le, -Nat.not_lt, ty3, ty4, ty22, ty26, ty32, ty53, ty59, ty96, eq59, hm, hl, hr, E27, e27_62, e27_68, n27_49, n27_34, n27_20]
          exact I1 _ _ _ _ _ _ _ _ (.inr rfl) rfl h13 (tame_val _) (tame_val _) (tame_val _) h6
    have JJ := fun e13 T X h13 h6 => II at1 H62 e13 T X h13 h6 rfl
    clear II H62 IH ih H
    have h5f := h5.firm
    refine evK_loop c27_35 _ _ _ _ rfl ?_
    simp [-Int.natCast_add, h5f, h11, h13, h40, h41, h42, h6, hlt, hlt2, kb, -Int.not_le, -Int.not_lt, -Nat.not_le, -Nat.not_lt, ty3, ty4, ty22, ty26, ty32, ty53, ty59, ty96, eq59, hm, hl, hr, E27, e27_62, e27_68, n27_49, n27_34, n27_20]
    exact JJ _ _ _ h13 h6
set_option maxHeartbeats 8000000 in
theorem L27_20 (p : List Int) (hpl : p.length < 1000) (l : List Sub) (hm0 : List Int) (hh : hm0.length = 7) (g : List Grp) (hg1 : ∀ x ∈ g, x.clients.length < 1000 ∧ ∀ c ∈ x.clients, 1 ≤ c ∧ c ≤ 6) (hg2 : g.length ≤ 500) (st : St) : ∀ (m a : Nat) (out : List Atom) (e5 e9 e10 e11 e13 e40 e41 e42 : E) (T : List (Nat × E)) (X : List (Nat × List V)), OutA e5 out → e9.Tame → e10.Tame → e11.Firm → e13.Tame → e40.Tame → e41.Tame → e42.Tame → lk X 6 = some (intVs hm0) → a ≤ g.length → g.length - a = m → out.length ≤ 500 * a →
    evK gS fi27 c27_20 { ps := [(0, .val (.slice (intVs p))), (1, .val (.slice (encSubs l))), (4, .own 0 []), (5, e5), (6, .lp 6 0), (7, .val (.bool true)), (8, .val (.slice (encGrps g))), (9, e9), (10, e10), (11, e11), (13, e13), (26, .val (.int .i64 g.length)), (27, .val (.int .i64 (a : Nat))), (40, e40), (41, e41), (42, e42)], ts := T, lc := X } st (.blk 0 (.seq c27_69 .nil)) = some (.ret (.slice (encAtoms (ofA p hm0 g m a out))) none, st) := by
  intro m
  have hm : fi27.marks = [1000000] := rfl
  have hl : fi27.locals = [6] := rfl
  have hr : fi27.results = [.tmp 4] := rfl
  have hz := fun xs st => frz_slice (xs := encAtoms xs) (flats_atoms xs) st
  induction m with
  | zero =>
    intro a out e5 e9 e10 e11 e13 e40 e41 e42 T X h5 h9 h10 h11 h13 h40 h41 h42 h6 ha hm2 ho
    obtain rfl : a = g.length := by omega
    rw [show ofA p hm0 g 0 g.length out = out from rfl]
    refine evK_loop c27_21 _ _ _ _ rfl ?_
    rcases h5 with ⟨rfl, rfl⟩ | rfl
    · have hz0 := hz [] st
      rw [show encAtoms [] = [] from rfl] at hz0 ⊢
      simp [h9, h10, h11, h13, h40, h41, h42, hz0, -Int.not_le, -Int.not_lt, -Nat.not_le, -Nat.not_lt, ty3, ty4, ty22, ty26, ty32, ty53, ty59, ty96, eq59, hm, hl, hr, E27, e27_62, e27_68, n27_49, n27_34, n27_20]
    · simp [h9, h10, h11, h13, h40, h41, h42, hz, -Int.not_le, -Int.not_lt, -Nat.not_le, -Nat.not_lt, ty3, ty4, ty22, ty26, ty32, ty53, ty59, ty96, eq59, hm, hl, hr, E27, e27_62, e27_68, n27_49, n27_34, n27_20]
  | succ m ih =>
    intro a out e5 e9 e10 e11 e13 e40 e41 e42 T X h5 h9 h10 h11 h13 h40 h41 h42 h6 ha hm2 ho
    have hlt : (a : Int) < (g.length : Int) := by omega
    have hlt2 : a < g.length := by omega
    have hw : IntKind.wrap .i64 ((a : Int) + 1) = ((a + 1 : Nat) : Int) := by rw [wrap64 (by omega) (by omega)]; omega
    have hbl := ofB_len p hm0 g a (g.length - a) a out
    rw [show ofA p hm0 g (m + 1) a out = ofA p hm0 g m (a + 1) (ofB p hm0 g a (g.length - a) a out) from rfl]
    have IH := fun e5 e9 e10 e11 e13 e40 e41 e42 T X h5 h9 h10 h11 h13 h40 h41 h42 h6 => ih (a + 1) (ofB p hm0 g a (g.length - a) a out) e5 e9 e10 e11 e13 e40 e41 e42 T X h5 h9 h10 h11 h13 h40 h41 h42 h6 (by omega) (by omega) (by omega)
    generalize hR : (Out.ret (V.slice (encAtoms (ofA p hm0 g m (a + 1) (ofB p hm0 g a (g.length - a) a out)))) none, st) = R at IH ⊢
    have H68 : ∀ (e5 e11 e13 e40 e41 e42 : E) (T : List (Nat × E)) (X : List (Nat × List V)), OutA e5 (ofB p hm0 g a (g.length - a) a out) → e11.Firm → e13.Tame → e40.Tame → e41.Tame → e42.Tame → lk X 6 = some (intVs hm0) → evK gS fi27 c27_68 { ps := [(0, .val (.slice (intVs p))), (1, .val (.slice (encSubs l))), (4, .own 0 []), (5, e5), (6, .lp 6 0), (7, .val (.bool true)), (8, .val (.slice (encGrps g))), (9, .val (.int .i64 (a : Nat))), (10, .val (.int .i64 g.length)), (11, e11), (13, e13), (26, .val (.int .i64 g.length)), (27, .val (.int .i64 (a : Nat))), (40, e40), (41, e41), (42, e42)], ts := T, lc := X } st (.loop c27_21 (.blk 0 (.seq c27_69 .nil))) = some R := by
      intro e5 e11 e13 e40 e41 e42 T X h5 h11 h13 h40 h41 h42 h6
      have h5f := h5.firm
      simp [-Int.natCast_add, h5f, h11, h13, h40, h41, h42, hw, -Int.not_le, -Int.not_lt, -Nat.not_le, -Nat.not_lt, ty3, ty4, ty22, ty26, ty32, ty53, ty59, ty96, eq59, hm, hl, hr, E27, e27_62, e27_68, n27_49, n27_34, n27_20]
      exact IH _ _ _ _ _ _ _ _ _ _ h5 (tame_val _) (tame_val _) h11 h13 h40 h41 h42 h6
    have JJ := fun e11 e13 e40 e41 e42 T X h11 h13 h40 h41 h42 h6 => L27_34 p hpl l hm0 hh g hg1 hg2 st R a hlt2 _ H68 (g.length - a) a out e5 e11 e13 e40 e41 e42 T X h5 h11 h13 h40 h41 h42 h6 (by omega) rfl (by omega) rfl
    clear H68 IH ih
    have h5f := h5.firm
    refine evK_loop c27_21 _ _ _ _ rfl ?_
    simp [-Int.natCast_add, h5f, h9, h10, h11, h13, h40, h41, h42, h6, hlt, hlt2, -Int.not_le, -Int.not_lt, -Nat.not_le, -Nat.not_lt, ty3, ty4, ty22, ty26, ty32, ty53, ty59, ty96, eq59, hm, hl, hr, E27, e27_62, e27_68, n27_49, n27_34, n27_20]
    exact JJ _ _ _ _ _ _ _ h11 h13 h40 h41 h42 h6
set_option maxHeartbeats 8000000 in
theorem c27 (p : List Int) (hpl : p.length < 1000) (l : List Sub) (hl1 : ∀ s ∈ l, PSm s.filter) (hl2 : l.length ≤ 400) (st : St) : EvF gS 27 [.slice (intVs p), .slice (encSubs l)] st = some (.ret (.slice (encAtoms (chainOf p l))) none, st) := by
  refine EvF_start fi219_eq (fun x h => by cases h) m27 ?_
  rw [st27]
  have hm : fi27.marks = [1000000] := rfl
  have hl : fi27.locals = [6] := rfl
  have hr : fi27.results = [.tmp 4] := rfl
  have k1 := fun fr st => k59 p hpl l (fun s hs => (hl1 s hs).ok) (by omega) fr st
  have k2 := fun fr st => k12 l hl1 (by omega) fr st
  unfold chainOf
  have hh := homesT_len p l
  have hgl := gof_len l
  have hz0 := frz_slice (xs := encAtoms []) (flats_atoms []) st
  rw [show encAtoms [] = [] from rfl] at hz0
  cases hok : (homesT p l).2 with
  | false =>
    rw [hok] at k1
    have f1 : (intVs (homesT p l).1).length = 7 := by simp [hh]
    have f9 := ints_one (homesT p l).1
    generalize intVs (homesT p l).1 = H at *
    have f7 : splice [.int .i64 0, .int .i64 0, .int .i64 0, .int .i64 0, .int .i64 0, .int .i64 0, .int .i64 0] 0 H = some H := splice_all (by simpa using f1)
    rw [show encAtoms (if false = true then ofA p (homesT p l).1 (gof l) (gof l).length 0 [] else []) = [] from rfl]
    simp [-splice, k1, hz0, f1, f9, f7, -Int.not_le, -Int.not_lt, -Nat.not_le, -Nat.not_lt, ty3, ty4, ty22, ty26, ty32, ty53, ty59, ty96, eq59, hm, hl, hr, E27, e27_62, e27_68, n27_49, n27_34, n27_20]
  | true =>
    have hmy : ∀ s ∈ l, mayS s = true := by
      unfold homesT at hok
      split at hok
      · rename_i h; simp only [Bool.and_eq_true] at h; exact rsG_may l none 0 h.2
      · cases hok
    have hg1 : ∀ x ∈ gof l, x.clients.length < 1000 ∧ ∀ c ∈ x.clients, 1 ≤ c ∧ c ≤ 6 := fun x hx => by
      obtain ⟨k, s, h1, h2, rfl⟩ := gof_mem.1 hx
      have := cliOf_len l s
      refine ⟨by show (cliOf l s).length < 1000; omega, fun c hc => ?_⟩
      obtain ⟨t, ht, _, rfl⟩ := cliOf_mem.1 hc
      have := may_client (hmy t ht)
      omega
    rw [hok] at k1
    rw [if_pos rfl]
    have LL := fun e9 e10 e11 e13 e40 e41 e42 T X h9 h10 h11 h13 h40 h41 h42 h6 => L27_20 p hpl l (homesT p l).1 hh (gof l) hg1 (by omega) st (gof l).length 0 [] (.own 0 []) e9 e10 e11 e13 e40 e41 e42 T X (.inl ⟨rfl, rfl⟩) h9 h10 h11 h13 h40 h41 h42 h6 (Nat.zero_le _) rfl (Nat.zero_le _)
    rw [show ((0 : Nat) : Int) = 0 from rfl] at LL
    have f1 : (intVs (homesT p l).1).length = 7 := by simp [hh]
    have f9 := ints_one (homesT p l).1
    generalize gof l = g at *
    generalize intVs (homesT p l).1 = H at *
    have f7 : splice [.int .i64 0, .int .i64 0, .int .i64 0, .int .i64 0, .int .i64 0, .int .i64 0, .int .i64 0] 0 H = some H := splice_all (by simpa using f1)
    simp [-splice, k1, k2, f1, f9, f7, -Int.not_le, -Int.not_lt, -Nat.not_le, -Nat.not_lt, ty3, ty4, ty22, ty26, ty32, ty53, ty59, ty96, eq59, hm, hl, hr, E27, e27_62, e27_68, n27_49, n27_34, n27_20]
    refine LL _ _ _ _ _ _ _ _ _ ?_ ?_ ?_ ?_ ?_ ?_ ?_ ?_
    all_goals simp
theorem k27 (p : List Int) (hpl : p.length < 1000) (l : List Sub) (hl1 : ∀ s ∈ l, PSm s.filter) (hl2 : l.length ≤ 400) (fr : Fr) (st : St) : callStep gS (EvF gS) 27 [.slice (intVs p), .slice (encSubs l)] fr st = some (.ok (.val (.slice (encAtoms (chainOf p l)))) fr st) :=
  call_pure rfl fi219_eq rfl (fun st => c27 p hpl l hl1 hl2 st) (by simp [V.flat])
end
end Go.Proofs.Ytdoobejjedpcgaa
namespace Go.Proofs.Ytdoobejjedpcgaa
open Go Go.Ab
set_option linter.unusedVariables false
set_option linter.unusedSimpArgs false
set_option linter.unnecessarySimpa false
set_option maxRecDepth 20000
noncomputable section
variable (fr : Fr) (st : St) (k : Kt)
def fi28 : FI := { body := codeOf Try.f28, ntmps := 2, results := [.tmp 0], pers := [0], locals := [], pure := true, marks := [] }
theorem fi224_eq : gS.fn 28 = some fi28 := by kernel_rfl
theorem x28 : gS.ext 28 = none := rfl
theorem p28 : fi28.pure = true := rfl
theorem k28 (fr : Fr) (st : St) : callStep gS (EvF gS) 28 [] fr st = some (.ok (.val (.bool true)) fr st) := by
  have hc : EvF gS 28 [] ⟨[], 0⟩ = some (.ret (.bool true) none, ⟨[], 0⟩) := Evn.lim ⟨400, fun n hn => by
    obtain ⟨m, rfl⟩ : ∃ m, n = m + 400 := ⟨n - 400, by omega⟩
    kernel_rfl⟩
  exact call_pure' rfl fi224_eq rfl rfl ⟨_, hc⟩ rfl
end
end Go.Proofs.Ytdoobejjedpcgaa
namespace Go.Ab
open Go
set_option linter.unusedVariables false
set_option linter.unusedSimpArgs false
set_option linter.unnecessarySimpa false
theorem new_feed (st : St) (l : List Int) : ({ objs := st.objs ++ [[V.slice (intVs l), V.int .i64 0]], wp := st.wp } : St) = setF (nw st 0 []) st.objs.length l (nA l 0 0) := by
  unfold setF nw nA
  simp
theorem feedOk_new {st : St} (h : st.wp ≤ st.objs.length) : FeedOk (nw st 0 []) st.objs.length := ⟨by rw [gr_len]; omega, h⟩
theorem wayG_mem (t : Atom → Bool) : ∀ (g : List Atom) (i : Nat) (out : List Int) (c : Int), c ∈ wayG t i g out ↔ c ∈ out ∨ ∃ (k : Nat) (x : Atom), g[k]? = some x ∧ t x = true ∧ c = ((i + k : Nat) : Int)
  | [], i, out, c => by simp [wayG]
  | y :: r, i, out, c => by
    unfold wayG
    rw [wayG_mem t r]
    constructor
    · rintro (h | ⟨k, x, h1, h2, h3⟩)
      · split at h
        · rename_i hy
          rcases List.mem_append.1 h with h | h
          · exact .inl h
          · simp at h
            exact .inr ⟨0, y, rfl, hy, by omega⟩
        · exact .inl h
      · exact .inr ⟨k + 1, x, by simpa using h1, h2, by omega⟩
    · rintro (h | ⟨k, x, h1, h2, h3⟩)
      · refine .inl ?_
        split
        · exact List.mem_append_left _ h
        · exact h
      · cases k with
        | zero =>
          simp at h1; subst h1
          rw [if_pos h2]
          exact .inl (List.mem_append_right _ (by simp; omega))
        | succ k => exact .inr ⟨k, x, by simpa using h1, h2, by omega⟩
theorem wayG_len (t : Atom → Bool) : ∀ (g : List Atom) (i : Nat) (out : List Int), (wayG t i g out).length = out.length + g.countP t
  | [], i, out => by simp [wayG]
  | y :: r, i, out => by
    unfold wayG
    rw [wayG_len t r, List.countP_cons]
    split
    · rw [List.length_append, List.length_singleton]; omega
    · omega
/-- The atoms, in the order in which they are laid. -/
def atB (p hm : List Int) (g : List Grp) (a : Nat) : Nat → Nat → List Atom
  | 0, _ => []
  | n + 1, b => (if atsOf hm g a b = [] then [] else [⟨a, b, placeT p (atsOf hm g a b)⟩]) ++ atB p hm g a n (b + 1)
def atA (p hm : List Int) (g : List Grp) : Nat → Nat → List Atom
  | 0, _ => []
  | n + 1, a => atB p hm g a (g.length - a) a ++ atA p hm g n (a + 1)
theorem layA_perm (l : List Atom) (n : Atom) : (layA l n).Perm (l ++ [n]) := by
  unfold layA
  have h1 : (l.take (posA l n) ++ [n] ++ l.drop (posA l n)).Perm (l.take (posA l n) ++ (l.drop (posA l n) ++ [n])) := by
    rw [List.append_assoc]
    exact List.Perm.append_left _ List.perm_append_comm
  rw [← List.append_assoc, List.take_append_drop] at h1
  exact h1
theorem ofB_perm (p hm : List Int) (g : List Grp) (a : Nat) : ∀ (n b : Nat) (out : List Atom), (ofB p hm g a n b out).Perm (out ++ atB p hm g a n b)
  | 0, b, out => by simp [ofB, atB]
  | n + 1, b, out => by
    have h := ofB_perm p hm g a n (b + 1) (ofStep p hm g a b out)
    show (ofB p hm g a n (b + 1) (ofStep p hm g a b out)).Perm _
    refine h.trans ?_
    rw [show atB p hm g a (n + 1) b = (if atsOf hm g a b = [] then [] else [⟨a, b, placeT p (atsOf hm g a b)⟩]) ++ atB p hm g a n (b + 1) from rfl, ← List.append_assoc]
    refine List.Perm.append_right _ ?_
    unfold ofStep
    split
    · simp
    · exact layA_perm _ _
theorem ofA_perm (p hm : List Int) (g : List Grp) : ∀ (n a : Nat) (out : List Atom), (ofA p hm g n a out).Perm (out ++ atA p hm g n a)
  | 0, a, out => by simp [ofA, atA]
  | n + 1, a, out => by
    have h := ofA_perm p hm g n (a + 1) (ofB p hm g a (g.length - a) a out)
    show (ofA p hm g n (a + 1) (ofB p hm g a (g.length - a) a out)).Perm _
    refine h.trans ?_
    rw [show atA p hm g (n + 1) a = atB p hm g a (g.length - a) a ++ atA p hm g n (a + 1) from rfl, ← List.append_assoc]
    exact List.Perm.append_right _ (ofB_perm p hm g a _ a out)
theorem atB_mem (p hm : List Int) (g : List Grp) (a : Nat) : ∀ (n b : Nat) (x : Atom), x ∈ atB p hm g a n b ↔ ∃ k, b ≤ k ∧ k < b + n ∧ atsOf hm g a k ≠ [] ∧ x = ⟨a, k, placeT p (atsOf hm g a k)⟩
  | 0, b, x => by simp [atB]; intro k; omega
  | n + 1, b, x => by
    unfold atB
    rw [List.mem_append, atB_mem p hm g a n (b + 1)]
    constructor
    · rintro (h | ⟨k, h1, h2, h3⟩)
      · split at h
        · simp at h
        · rename_i hne
          simp only [List.mem_singleton] at h
          exact ⟨b, Nat.le_refl _, by omega, hne, h⟩
      · exact ⟨k, by omega, by omega, h3⟩
    · rintro ⟨k, h1, h2, h3, h4⟩
      by_cases hk : k = b
      · subst hk
        rw [if_neg h3]
        exact .inl (by rw [h4]; simp)
      · exact .inr ⟨k, by omega, by omega, h3, h4⟩
theorem atA_mem (p hm : List Int) (g : List Grp) : ∀ (n a : Nat) (x : Atom), a + n ≤ g.length → (x ∈ atA p hm g n a ↔ ∃ i k, a ≤ i ∧ i < a + n ∧ i ≤ k ∧ k < g.length ∧ atsOf hm g i k ≠ [] ∧ x = ⟨i, k, placeT p (atsOf hm g i k)⟩)
  | 0, a, x, h => by simp [atA]; intro i k; omega
  | n + 1, a, x, h => by
    unfold atA
    rw [List.mem_append, atB_mem, atA_mem p hm g n (a + 1) x (by omega)]
    constructor
    · rintro (⟨k, h1, h2, h3⟩ | ⟨i, k, h1, h2, h3⟩)
      · exact ⟨a, k, Nat.le_refl _, by omega, h1, by omega, h3⟩
      · exact ⟨i, k, by omega, by omega, h3⟩
    · rintro ⟨i, k, h1, h2, h3, h4, h5⟩
      by_cases hi : i = a
      · subst hi; exact .inl ⟨k, h3, by omega, h5⟩
      · exact .inr ⟨i, k, by omega, by omega, h3, h4, h5⟩
def shr (g : List Grp) (a b : Nat) : Bool := !decide (bothI ((g[b]?).getD default).clients ((g[a]?).getD default).clients [] = [])
theorem ats_shr (hm : List Int) (g : List Grp) (a b : Nat) : decide (atsOf hm g a b = []) = !shr g a b := by
  unfold atsOf shr
  rw [Bool.not_not]
  simp
theorem bothI_nil {u v : List Int} : bothI v u [] = [] ↔ ∀ x, x ∈ u → ¬ x ∈ v := by
  constructor
  · intro h x h1 h2
    have := (bothI_mem v u [] x).2 (.inr ⟨h1, h2⟩)
    rw [h] at this; simp at this
  · intro h
    rw [List.eq_nil_iff_forall_not_mem]
    intro x hx
    rcases (bothI_mem v u [] x).1 hx with h1 | ⟨h1, h2⟩
    · simp at h1
    · exact h x h1 h2
end Go.Ab
namespace Go.Ab
open Go
set_option linter.unusedVariables false
set_option linter.unusedSimpArgs false
set_option linter.unnecessarySimpa false
def rsSt : Option Sub → Int → List Sub → Option Sub × Int
  | o, m, [] => (o, m)
  | none, m, s :: r => rsSt (some s) 1 r
  | some t, m, s :: r => if t.client < s.client then rsSt (some s) 1 r else rsSt (some s) (m + 1) r
theorem rsG_append : ∀ (xs : List Sub) (o : Option Sub) (m : Int) (s : Sub), rsG o m (xs ++ [s]) = (rsG o m xs && rsG (rsSt o m xs).1 (rsSt o m xs).2 [s])
  | [], o, m, s => by simp [rsSt, rsG]
  | x :: r, none, m, s => by
    rw [List.cons_append]
    simp only [rsG, rsSt]
    rw [rsG_append r (some x) 1 s, Bool.and_assoc]
  | x :: r, some t, m, s => by
    rw [List.cons_append]
    simp only [rsG, rsSt]
    by_cases h : t.client < x.client
    · simp only [h, if_true]
      rw [rsG_append r (some x) 1 s, Bool.and_assoc]
    · simp only [h, if_false]
      rw [rsG_append r (some x) (m + 1) s, Bool.and_assoc, Bool.and_assoc]
theorem rsSt_append : ∀ (xs : List Sub) (o : Option Sub) (m : Int) (s : Sub), (rsSt o m (xs ++ [s])).1 = some s ∧ (rsSt o m (xs ++ [s])).2 = match (rsSt o m xs).1 with
    | none => 1
    | some t => if t.client < s.client then 1 else (rsSt o m xs).2 + 1
  | [], none, m, s => by simp [rsSt]
  | [], some t, m, s => by
    simp only [List.nil_append, rsSt]
    split <;> simp [rsSt]
  | x :: r, none, m, s => by
    rw [List.cons_append]
    simp only [rsSt]
    exact rsSt_append r (some x) 1 s
  | x :: r, some t, m, s => by
    rw [List.cons_append]
    simp only [rsSt]
    by_cases h : t.client < x.client
    · simp only [h, if_true]; exact rsSt_append r (some x) 1 s
    · simp only [h, if_false]; exact rsSt_append r (some x) (m + 1) s
/-- Subscriptions so far: the last one's client stands ahead of c, or it is c's, with its k-th number. -/
structure SoFar (P : Nat) (c home num : Int) (k : Nat) (out : List Sub) : Prop where
  right : rightS out = true
  bro : ∀ s ∈ out, s.broker ≤ P
  last : ∀ t, (rsSt none 0 out).1 = some t → t.client < c ∨ (t.client = c ∧ t.broker = home ∧ t.num ≤ num ∧ (rsSt none 0 out).2 ≤ k)
theorem may_of {c home num : Int} {f : List Pred} (h1 : 1 ≤ c) (h2 : c ≤ 6) (h3 : 0 ≤ home) (h4 : home ≤ 7) (h5 : 1 ≤ num) (h6 : num ≤ 100) (hf : fright f = true) : mayS ⟨c, home, num, f⟩ = true := by
  simp only [mayS, Bool.and_eq_true, decide_eq_true_eq]
  exact ⟨⟨⟨⟨⟨⟨h1, h2⟩, h3⟩, h4⟩, h5⟩, by omega⟩, hf⟩
theorem SoFar.snoc {P : Nat} {c home num num' : Int} {k : Nat} {out : List Sub} {f : List Pred} (h : SoFar P c home num k out) (hP : P ≤ 7) (h1 : 1 ≤ c) (h2 : c ≤ 6) (h3 : 0 ≤ home) (h4 : home ≤ P) (h5 : num < num') (h5' : 1 ≤ num') (h6 : num' ≤ 100) (hk : k ≤ 2) (hf : fright f = true) :
    SoFar P c home num' (k + 1) (out ++ [⟨c, home, num', f⟩]) := by
  have hm := may_of (f := f) h1 h2 h3 (show home ≤ 7 by omega) h5' h6 hf
  have ha := rsG_append out none 0 ⟨c, home, num', f⟩
  have hs := rsSt_append out none 0 ⟨c, home, num', f⟩
  have hl := h.last
  have hr := h.right
  unfold rightS at hr
  refine ⟨?_, fun s hs => ?_, fun t ht => ?_⟩
  · unfold rightS
    rw [ha, hr, Bool.true_and]
    cases ho : (rsSt none 0 out).1 with
    | none => simp [rsG, hm]
    | some t =>
      simp only [rsG, hm, Bool.true_and, Bool.and_true]
      rcases hl t ho with h' | ⟨e1, e2, e3, e4⟩
      · simp [h']
      · have n1 : ¬ t.client < c := by omega
        have n2 : ¬ c < t.client := by omega
        have n3 : ¬ num' ≤ t.num := by omega
        have n4 : ¬ (3 : Int) < (rsSt none 0 out).2 + 1 := by omega
        simp [n1, n2, n3, n4, e2]
  · rcases List.mem_append.1 hs with hs | hs
    · exact h.bro s hs
    · simp at hs; subst hs; exact h4
  · rw [hs.1] at ht
    cases ht
    refine .inr ⟨rfl, rfl, Int.le_refl _, ?_⟩
    rw [hs.2]
    cases ho : (rsSt none 0 out).1 with
    | none => simp only; omega
    | some t =>
      simp only
      split
      · omega
      · rename_i hn
        rcases hl t ho with h' | ⟨e1, e2, e3, e4⟩
        · exact absurd h' hn
        · omega
theorem subsI_right (l : List Int) (a P : Nat) (fs : List (List Pred)) (c home : Int) (hP : P ≤ 7) (h1 : 1 ≤ c) (h2 : c ≤ 6) (h3 : 0 ≤ home) (h4 : home ≤ P) (hfs : ∀ f ∈ fs, fright f = true) : ∀ (n : Nat) (num : Int) (j d k : Nat) (out : List Sub), n + k ≤ 3 → 0 ≤ num → num ≤ 2 * k → SoFar P c home num k out →
    ∃ num' k', SoFar P c home num' k' (subsI l a fs c home n num j d out).1
  | 0, num, j, d, k, out, _, _, _, h => ⟨num, k, h⟩
  | n + 1, num, j, d, k, out, hn, hm, hm2, h => by
    simp only [subsI]
    have hb := fd_bound l a j (n := 2) (by omega)
    refine subsI_right l a P fs c home hP h1 h2 h3 h4 hfs n (num + 1 + fd l a j 2) _ _ (k + 1) _ (by omega) (by omega) (by omega) (h.snoc hP h1 h2 h3 h4 (by omega) (by omega) (by omega) (by omega) ?_)
    split
    · cases hg : fs[(fd l a (filterV l a (j + 1)).2.1 6).toNat]? with
      | none => rw [List.getD_eq_getElem?_getD, hg]; rfl
      | some f => rw [List.getD_eq_getElem?_getD, hg]; exact hfs f (List.mem_of_getElem? hg)
    · have := filterV_ffv l a (j + 1)
      exact ffv_right this.1 this.2
theorem SoFar.next {P : Nat} {c home num : Int} {k : Nat} {out : List Sub} (h : SoFar P c home num k out) (home' : Int) : SoFar P (c + 1) home' 0 0 out :=
  ⟨h.right, h.bro, fun t ht => .inl (by rcases h.last t ht with h | h <;> omega)⟩
theorem subsO_right (l : List Int) (a P : Nat) (fs : List (List Pred)) (hP : P ≤ 7) (hfs : ∀ f ∈ fs, fright f = true) : ∀ (r : Nat) (c : Int) (j d : Nat) (out : List Sub), 1 ≤ c → c + r ≤ 7 → (∀ home, SoFar P c home 0 0 out) → ∃ c' home num k, SoFar P c' home num k (subsO l a P fs r c j d out).1
  | 0, c, j, d, out, _, _, h => ⟨c, 0, 0, 0, h 0⟩
  | r + 1, c, j, d, out, h1, h2, h => by
    simp only [subsO]
    have hb := fd_bound l a j (n := (P : Int) + 1) (by omega)
    have hb4 := fd_bound l a (j + 1) (n := 4) (by omega)
    obtain ⟨num', k', h'⟩ := subsI_right l a P fs c (fd l a j (P + 1)) hP h1 (by omega) hb.1 (by omega) hfs (fd l a (j + 1) 4).toNat 0 (j + 2) d 0 out (by omega) (by omega) (by omega) (h _)
    exact subsO_right l a P fs hP hfs r _ _ _ _ (by omega) (by omega) fun home => h'.next home
/-- A feed's subscriptions are right. -/
theorem subsV_right (l : List Int) (a j P : Nat) (hP : P ≤ 7) : rightS (subsV l a j P).1 = true ∧ ∀ s ∈ (subsV l a j P).1, s.broker ≤ P := by
  unfold subsV
  have hfs : ∀ f ∈ subsF l a j, fright f = true := fun f hf => by
    unfold subsF at hf
    simp at hf
    rcases hf with rfl | rfl | rfl
    · have := filterV_ffv l a j; exact ffv_right this.1 this.2
    · have := filterV_ffv l a (filterV l a j).2.1; exact ffv_right this.1 this.2
    · rfl
  obtain ⟨c', home, num, k, h⟩ := subsO_right l a P (subsF l a j) hP hfs 6 1 (filterV l a (filterV l a j).2.1).2.1 ((filterV l a j).2.2 + (filterV l a (filterV l a j).2.1).2.2) [] (by omega) (by omega) fun home => ⟨rfl, by simp, fun t ht => by simp [rsSt] at ht⟩
  exact ⟨h.right, h.bro⟩
theorem rsG_order : ∀ (l : List Sub) (t : Sub) (m : Int), rsG (some t) m l = true → ∀ s ∈ l, t.client ≤ s.client ∧ (s.client = t.client → s.broker = t.broker)
  | [], _, _, _, s, hs => by simp at hs
  | x :: r, t, m, h, s, hs => by
    simp only [rsG, Bool.and_eq_true] at h
    have h2 := h.2
    by_cases hc : t.client < x.client
    · rw [if_pos hc] at h2
      rcases List.mem_cons.1 hs with rfl | hs
      · exact ⟨by omega, fun e => by omega⟩
      · have := rsG_order r x 1 h2 s hs
        exact ⟨by omega, fun e => by omega⟩
    · rw [if_neg hc] at h2
      simp only [Bool.and_eq_true, Bool.not_eq_true', Bool.or_eq_false_iff, decide_eq_false_iff_not, Bool.not_eq_false', decide_eq_true_eq] at h2
      obtain ⟨⟨⟨⟨e1, e2⟩, e3⟩, e4⟩, h3⟩ := h2
      rcases List.mem_cons.1 hs with rfl | hs
      · exact ⟨by omega, fun _ => e3.symm⟩
      · have := rsG_order r x (m + 1) h3 s hs
        exact ⟨by omega, fun e => by rw [this.2 (by omega), e3]⟩
/-- A client's subscriptions are at one broker. -/
theorem right_home : ∀ (l : List Sub) (o : Option Sub) (m : Int), rsG o m l = true → ∀ s ∈ l, ∀ t ∈ l, s.client = t.client → s.broker = t.broker
  | [], _, _, _, s, hs, _, _, _ => by simp at hs
  | x :: r, o, m, h, s, hs, t, ht, e => by
    obtain ⟨m', h'⟩ : ∃ m', rsG (some x) m' r = true := by
      cases o with
      | none => simp only [rsG, Bool.and_eq_true] at h; exact ⟨1, h.2⟩
      | some y =>
        simp only [rsG, Bool.and_eq_true] at h
        have h2 := h.2
        split at h2
        · exact ⟨1, h2⟩
        · simp only [Bool.and_eq_true] at h2; exact ⟨m + 1, h2.2⟩
    have ho := rsG_order r x m' h'
    rcases List.mem_cons.1 hs with hs1 | hs1 <;> rcases List.mem_cons.1 ht with ht1 | ht1
    · rw [hs1, ht1]
    · rw [hs1]; exact ((ho t ht1).2 (by rw [← e, hs1])).symm
    · rw [ht1]; exact (ho s hs1).2 (by rw [e, ht1])
    · exact right_home r (some x) m' h' s hs1 t ht1 e
def setH (h : List Int) (s : Sub) : List Int := h.set s.client.toNat s.broker
theorem homesG_eq (p : List Int) : ∀ (l : List Sub) (h : List Int), (∀ s ∈ l, s.broker ≤ p.length) → homesG p l h = (l.foldl setH h, true)
  | [], _, _ => rfl
  | s :: r, h, hb => by
    unfold homesG
    rw [if_neg (by have := hb s (by simp); omega), homesG_eq p r _ fun t ht => hb t (by simp [ht])]
    rfl
theorem setH_keep : ∀ (l : List Sub) (h : List Int) (c : Nat) (b : Int), h.getD c 0 = b → (∀ t ∈ l, t.client.toNat = c → t.broker = b ∧ c < h.length) → (l.foldl setH h).getD c 0 = b
  | [], _, _, _, h1, _ => h1
  | s :: r, h, c, b, h1, h2 => by
    rw [List.foldl_cons]
    refine setH_keep r (setH h s) c b ?_ fun t ht e => ?_
    · unfold setH
      rw [List.getD_eq_getElem?_getD, List.getElem?_set]
      by_cases he : s.client.toNat = c
      · obtain ⟨e1, e2⟩ := h2 s (by simp) he
        rw [if_pos he, if_pos (by omega)]
        simpa using e1
      · rw [if_neg he, ← List.getD_eq_getElem?_getD]; exact h1
    · have := h2 t (by simp [ht]) e
      unfold setH
      simpa using this
theorem setH_get : ∀ (l : List Sub) (h : List Int), h.length = 7 → (∀ s ∈ l, 1 ≤ s.client ∧ s.client ≤ 6) → (∀ s ∈ l, ∀ t ∈ l, s.client = t.client → s.broker = t.broker) → ∀ s ∈ l, (l.foldl setH h).getD s.client.toNat 0 = s.broker
  | [], _, _, _, _, s, hs => by simp at hs
  | x :: r, h, hl, hc, hs0, s, hs => by
    rw [List.foldl_cons]
    rcases List.mem_cons.1 hs with rfl | hs
    · have hr := hc s (by simp)
      refine setH_keep r _ _ _ ?_ fun t ht e => ⟨?_, ?_⟩
      · unfold setH
        rw [List.getD_eq_getElem?_getD, List.getElem?_set, if_pos rfl, if_pos (by omega)]
        rfl
      · have hr2 := hc t (by simp [ht])
        exact hs0 t (by simp [ht]) s (by simp) (by omega)
      · unfold setH; simp; omega
    · exact setH_get r _ (by unfold setH; simpa using hl) (fun t ht => hc t (by simp [ht])) (fun a ha b hb e => hs0 a (by simp [ha]) b (by simp [hb]) e) s hs
/-- Homes of right subscriptions. -/
theorem homesT_ok {p : List Int} {l : List Sub} (hp : rightT p = true) (hr : rightS l = true) (hb : ∀ s ∈ l, s.broker ≤ p.length) : (homesT p l).2 = true ∧ ∀ s ∈ l, (homesT p l).1.getD s.client.toNat 0 = s.broker := by
  unfold homesT
  rw [hp, hr, Bool.and_self, if_pos rfl, homesG_eq p l home0 hb]
  refine ⟨rfl, setH_get l home0 rfl (fun s hs => ?_) (right_home l none 0 hr)⟩
  have := may_client (rsG_may l none 0 hr s hs)
  omega
theorem chainOf_eq {p : List Int} {l : List Sub} (hp : rightT p = true) (hr : rightS l = true) (hb : ∀ s ∈ l, s.broker ≤ p.length) : chainOf p l = ofA p (homesT p l).1 (gof l) (gof l).length 0 [] := by
  unfold chainOf
  rw [(homesT_ok hp hr hb).1, if_pos rfl]
theorem gof_clients {l : List Sub} {x : Grp} (h : x ∈ gof l) : x.clients ≠ [] := by
  obtain ⟨k, s, h1, h2, rfl⟩ := gof_mem.1 h
  intro e
  have : s.client ∈ cliOf l s := cliOf_mem.2 ⟨s, List.mem_of_getElem? h1, fsame_rfl _, rfl⟩
  rw [show cliOf l s = [] from e] at this
  simp at this
theorem wayA_get {c : List Atom} {m : List Int} {x : Int} (h : x ∈ wayA c m) : ∃ (k : Nat) (y : Atom), x = (k : Int) ∧ c[k]? = some y ∧ (hasI m y.a || hasI m y.b) = true := by
  unfold wayA at h
  rcases (wayG_mem _ _ _ _ _).1 h with h | ⟨k, y, h1, h2, h3⟩
  · simp at h
  · exact ⟨k, y, by omega, h1, h2⟩
theorem wayA_of {c : List Atom} {m : List Int} {k : Nat} {y : Atom} (h1 : c[k]? = some y) (h2 : (hasI m y.a || hasI m y.b) = true) : (k : Int) ∈ wayA c m := by
  unfold wayA
  exact (wayG_mem _ _ _ _ _).2 (.inr ⟨k, y, h1, h2, by omega⟩)
theorem ownA_get {c : List Atom} {m : List Int} {x : Int} (h : x ∈ ownA c m) : ∃ (k : Nat) (y : Atom), x = (k : Int) ∧ c[k]? = some y ∧ (hasI m y.a && hasI m y.b) = true := by
  unfold ownA at h
  rcases (wayG_mem _ _ _ _ _).1 h with h | ⟨k, y, h1, h2, h3⟩
  · simp at h
  · exact ⟨k, y, by omega, h1, h2⟩
theorem ownA_of {c : List Atom} {m : List Int} {k : Nat} {y : Atom} (h1 : c[k]? = some y) (h2 : (hasI m y.a && hasI m y.b) = true) : (k : Int) ∈ ownA c m := by
  unfold ownA
  exact (wayG_mem _ _ _ _ _).2 (.inr ⟨k, y, h1, h2, by omega⟩)
theorem atB_len (p hm : List Int) (g : List Grp) (a : Nat) : ∀ (n b : Nat), (atB p hm g a n b).length ≤ n
  | 0, _ => Nat.le_refl _
  | n + 1, b => by
    have := atB_len p hm g a n (b + 1)
    unfold atB
    rw [List.length_append]
    split <;> simp <;> omega
theorem atA_len (p hm : List Int) (g : List Grp) (hg : g.length ≤ 18) : ∀ (n a : Nat), n ≤ 18 → (atA p hm g n a).length ≤ 18 * n
  | 0, _, _ => Nat.le_refl _
  | n + 1, a, h => by
    have h1 := atB_len p hm g a (g.length - a) a
    have h2 := atA_len p hm g hg n (a + 1) (by omega)
    unfold atA
    rw [List.length_append]
    omega
theorem ofA_len (p hm : List Int) (g : List Grp) (hg : g.length ≤ 18) : (ofA p hm g g.length 0 []).length ≤ 324 := by
  rw [(ofA_perm p hm g g.length 0 []).length_eq, List.nil_append]
  have := atA_len p hm g hg g.length 0 hg
  omega
theorem wayG_le (t : Atom → Bool) (c : List Atom) : (wayG t 0 c []).length ≤ c.length := by rw [wayG_len]; simpa using List.countP_le_length
end Go.Ab
namespace Go.Ab
open Go
set_option linter.unusedVariables false
set_option linter.unusedSimpArgs false
set_option linter.unnecessarySimpa false
/-- All atoms so far are of pairs ahead of one. -/
def before (a b : Nat) (l : List Atom) : Prop := ∀ x ∈ l, x.a < (a : Int) ∨ (x.a = (a : Int) ∧ x.b < (b : Int))
end Go.Ab
namespace Go.Ab
open Go
set_option linter.unusedVariables false
set_option linter.unusedSimpArgs false
set_option linter.unnecessarySimpa false
/-- Where a feed stands behind so many rows of attributes. -/
def aJ (l : List Int) : Nat → Nat
  | 0 => 0
  | q + 1 => (attrsV l 0 (aJ l q)).2
theorem aJ_le (l : List Int) : ∀ q, aJ l q ≤ 15 * q
  | 0 => Nat.le_refl _
  | q + 1 => by
    have h1 := aJ_le l q
    have h2 := attrsV_asks l 0 (aJ l q)
    unfold aJ; omega
def mtStep (v w : List Int) (b : Bool) (x : Int) : Bool := b || (hasI v x && hasI w x)
theorem mt_fold (v w : List Int) : ∀ (l : List Int) (b : Bool), l.foldl (mtStep v w) b = (b || l.any fun x => hasI v x && hasI w x)
  | [], b => by simp
  | x :: r, b => by
    rw [List.foldl_cons, mt_fold v w r]
    unfold mtStep
    rw [List.any_cons, Bool.or_assoc]
theorem own_reads {g : List Grp} {ch : List Atom} {m : List Int} (hm : ∀ i ∈ m, 0 ≤ i ∧ i < g.length) {c x : Int} (hx : x ∈ wayA ch m) (ho : x ∈ ownA ch (gmine g c)) : c ∈ greaders g m := by
  obtain ⟨k, y, rfl, h1, h2⟩ := wayA_get hx
  obtain ⟨k', y', e, h3, h4⟩ := ownA_get ho
  obtain rfl : k' = k := by omega
  rw [h1] at h3
  cases h3
  rw [Bool.and_eq_true, hasI_iff, hasI_iff] at h4
  rw [Bool.or_eq_true, hasI_iff, hasI_iff] at h2
  have key : ∀ z, z ∈ m → z ∈ gmine g c → c ∈ greaders g m := fun z hz hz2 => by
    obtain ⟨j, u, e1, e2, e3⟩ := gmine_mem.1 hz2
    refine (readers_mem g m [] c hm).2 (.inr ⟨z, hz, u, ?_, e2⟩)
    rw [e3, Int.toNat_natCast]; exact e1
  rcases h2 with h2 | h2
  · exact key _ h2 h4.1
  · exact key _ h2 h4.2
theorem meet_any {p hm : List Int} {g : List Grp} {m1 m2 : List Int} (h1 : ∀ i ∈ m1, 0 ≤ i ∧ i < g.length) (h2 : ∀ i ∈ m2, 0 ≤ i ∧ i < g.length) {c : Int} (r1 : c ∈ greaders g m1) (r2 : c ∈ greaders g m2) :
    (ownA (ofA p hm g g.length 0 []) (gmine g c)).foldl (mtStep (wayA (ofA p hm g g.length 0 []) m1) (wayA (ofA p hm g g.length 0 []) m2)) false = true := by
  rw [mt_fold, Bool.false_or, List.any_eq_true]
  rcases (readers_mem g m1 [] c h1).1 r1 with h | ⟨i1, a1, u, hu, cu⟩
  · simp at h
  rcases (readers_mem g m2 [] c h2).1 r2 with h | ⟨i2, a2, v, hv, cv⟩
  · simp at h
  have b1 := h1 i1 a1
  have b2 := h2 i2 a2
  obtain ⟨j1, rfl⟩ : ∃ j : Nat, i1 = (j : Int) := ⟨i1.toNat, by omega⟩
  obtain ⟨j2, rfl⟩ : ∃ j : Nat, i2 = (j : Int) := ⟨i2.toNat, by omega⟩
  rw [Int.toNat_natCast] at hu hv
  have key : ∀ i k : Nat, i ≤ k → k < g.length → (∃ u, g[i]? = some u ∧ c ∈ u.clients) → (∃ v, g[k]? = some v ∧ c ∈ v.clients) → ((i : Int) ∈ m1 ∨ (k : Int) ∈ m1) → ((i : Int) ∈ m2 ∨ (k : Int) ∈ m2) →
      ∃ x ∈ ownA (ofA p hm g g.length 0 []) (gmine g c), (hasI (wayA (ofA p hm g g.length 0 []) m1) x && hasI (wayA (ofA p hm g g.length 0 []) m2) x) = true := by
    rintro i k hik hk ⟨u, hu, cu⟩ ⟨v, hv, cv⟩ q1 q2
    have hs : shr g i k = true := by
      unfold shr
      rw [hu, hv]
      simp only [Option.getD_some, Bool.not_eq_true', decide_eq_false_iff_not]
      rw [bothI_nil]
      exact fun h => h c cu cv
    have hne : atsOf hm g i k ≠ [] := by
      have := ats_shr hm g i k
      rw [hs] at this
      simpa using this
    have hmem : (⟨i, k, placeT p (atsOf hm g i k)⟩ : Atom) ∈ ofA p hm g g.length 0 [] := by
      rw [(ofA_perm p hm g g.length 0 []).mem_iff, List.nil_append, atA_mem p hm g g.length 0 _ (by omega)]
      exact ⟨i, k, Nat.zero_le _, by omega, hik, hk, hne, rfl⟩
    obtain ⟨t, ht⟩ := List.mem_iff_getElem?.1 hmem
    have m1' : (i : Int) ∈ gmine g c := gmine_mem.2 ⟨i, u, hu, cu, rfl⟩
    have m2' : (k : Int) ∈ gmine g c := gmine_mem.2 ⟨k, v, hv, cv, rfl⟩
    refine ⟨(t : Int), ownA_of ht (by rw [Bool.and_eq_true, hasI_iff, hasI_iff]; exact ⟨m1', m2'⟩), ?_⟩
    rw [Bool.and_eq_true, hasI_iff, hasI_iff]
    exact ⟨wayA_of ht (by rw [Bool.or_eq_true, hasI_iff, hasI_iff]; exact q1), wayA_of ht (by rw [Bool.or_eq_true, hasI_iff, hasI_iff]; exact q2)⟩
  rcases Nat.le_total j1 j2 with h | h
  · exact key j1 j2 h (by omega) ⟨u, hu, cu⟩ ⟨v, hv, cv⟩ (.inl a1) (.inr a2)
  · exact key j2 j1 h (by omega) ⟨v, hv, cv⟩ ⟨u, hu, cu⟩ (.inr a1) (.inl a2)
theorem gmatch_range {g : List Grp} {A : List Attr} : ∀ i ∈ gmatch g A, 0 ≤ i ∧ i < g.length := fun i hi => by
  obtain ⟨k, x, h1, _, rfl⟩ := gmatch_mem.1 hi
  have := (List.getElem?_eq_some_iff.1 h1).1
  omega
/-- What four events' ways and readers are. -/
def fourW (l : List Int) (g : List Grp) (ch : List Atom) : List (List Int) := (List.range 4).map fun i => wayA ch (gmatch g (attrsV l 0 (aJ l i)).1)
def fourR (l : List Int) (g : List Grp) : List (List Int) := (List.range 4).map fun i => greaders g (gmatch g (attrsV l 0 (aJ l i)).1)
def slc (w : List Int) : V := .slice (intVs w)
/-- The first so many are there. -/
def partC (ws : List (List Int)) (q : Nat) : List V := (ws.take q).map slc ++ List.replicate (4 - q) (.osl 0 [])
theorem partC_len {ws : List (List Int)} (h : ws.length = 4) {q : Nat} (hq : q ≤ 4) : (partC ws q).length = 4 := by
  unfold partC; simp; omega
theorem partC_splice {ws : List (List Int)} (h : ws.length = 4) {q : Nat} {w : List Int} (hw : ws[q]? = some w) : splice (partC ws q) q [.slice (intVs w)] = some (partC ws (q + 1)) := by
  match ws, h with
  | [a, b, c, d], _ =>
    match q, hw with
    | 0, hw => simp at hw; subst hw; rfl
    | 1, hw => simp at hw; subst hw; rfl
    | 2, hw => simp at hw; subst hw; rfl
    | 3, hw => simp at hw; subst hw; rfl
    | n + 4, hw => simp at hw
theorem partC_four {ws : List (List Int)} (h : ws.length = 4) : partC ws 4 = ws.map slc := by unfold partC; rw [List.take_of_length_le (by omega)]; simp
theorem lay_fold_len : ∀ (cs acc : List Int), (cs.foldl layI acc).length ≤ acc.length + cs.length
  | [], acc => by simp
  | c :: r, acc => by
    have h1 := lay_fold_len r (layI acc c)
    have h2 := layI_len acc c
    simp only [List.foldl_cons, List.length_cons]; omega
theorem rd_fold_len {g : List Grp} (hg : ∀ x ∈ g, x.clients.length < 1000) : ∀ (m acc : List Int), (m.foldl (rdStep g) acc).length ≤ acc.length + 1000 * m.length
  | [], acc => by simp
  | i :: r, acc => by
    have h1 := rd_fold_len hg r (rdStep g acc i)
    have h2 : (rdStep g acc i).length ≤ acc.length + 1000 := by
      unfold rdStep
      split
      · omega
      · rename_i hc
        cases hx : g[i.toNat]? with
        | none =>
          rw [show ((none : Option Grp).getD default).clients = [] from rfl, List.foldl_nil]; omega
        | some x =>
          have := lay_fold_len x.clients acc
          have := hg x (List.mem_of_getElem? hx)
          simp only [Option.getD_some]; omega
    simp only [List.foldl_cons, List.length_cons]; omega
theorem readers_len {g : List Grp} (h2 : g.length ≤ 18) (hg : ∀ x ∈ g, x.clients.length < 1000) (m : List Int) (hm : m.length ≤ 18) : (greaders g m).length < 100000 := by
  have := rd_fold_len hg m []
  unfold greaders; simp at this; omega
end Go.Ab
