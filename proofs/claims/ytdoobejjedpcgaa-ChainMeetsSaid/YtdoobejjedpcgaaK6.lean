/- The law of meeting, with all that it rests on. Part 6. -/
import Derived.Test.YtdoobejjedpcgaaK5
namespace Go.Proofs.Ytdoobejjedpcgaa
open Go Go.Ab
set_option linter.unusedVariables false
set_option linter.unusedSimpArgs false
set_option linter.unnecessarySimpa false
set_option maxRecDepth 20000
noncomputable section
variable (fr : Fr) (st : St) (k : Kt)
def fi48 : FI := { body := codeOf Try.f48, ntmps := 25, results := [.tmp 2], pers := [0, 2, 3, 4, 5], locals := [5], pure := true, marks := [] }
theorem fi51_eq : gS.fn 48 = some fi48 := by kernel_rfl
theorem st48 (a0 : V) : startFr fi48 [a0] = { ps := [(0, .val a0), (2, .any), (3, .any), (4, .any), (5, .any)], ts := [], lc := [] } := rfl
def b48 : Code := mini (codeOf Try.f48)
def c48_12 : Code := .cond (.tmp 9) .skip (.exit 0)
def c48_10 : Code := .seq (codeN b48 267) c48_12
def c48_21 : Code := codeN b48 3659
def c48_19 : Code := .seq (codeN b48 2635) c48_21
def c48_17 : Code := .seq (codeN b48 1099) c48_19
def c48_22 : Code := codeN b48 459
def c48_15 : Code := .seq (.block 1 c48_17) c48_22
def c48_9 : Code := .seq c48_10 c48_15
def c48_8 : Code := .loop c48_9
def c48_7 : Code := .block 0 c48_8
def c48_5 : Code := .seq (codeN b48 19) c48_7
def c48_23 : Code := .seq (codeN b48 23) .ret
def c48_4 : Code := .seq c48_5 c48_23
def c48_2 : Code := .seq (codeN b48 5) c48_4
def c48_0 : Code := .seq (codeN b48 2) c48_2
theorem E48 : evK gS fi48 c48_12 fr st k = condK gS fi48 (fr.op (.tmp 9)).bool? .skip (.exit 0) fr st k ∧
 (evK gS fi48 c48_10 fr st k = opsR gS fi48 [mv 6 4 3,
 mv 7 0 29,
 len1 8 7 29 3,
 bop 9 .lss 3 6 8 3 4] fr st (.seq c48_12 k)) ∧
 (evK gS fi48 c48_21 fr st k = opsR gS fi48 [mv 20 3 29,
 ld 21 91 5 91,
 op1 22 (.buildSlice 29 1 #[(0, (.tmp 21))]) 29,
 op1 23 (.call { callee := (.builtin .append), args := #[(.tmp 20), (.tmp 22)], argTypes := #[29, 29] }) 29,
 asn 3 23 29] fr st k) ∧
 (evK gS fi48 c48_19 fr st k = opsR gS fi48 [op1 16 (.fieldAddr 91 (.tmp 5) 4) 0,
 ld 17 89 16 89,
 op1 18 (.call { callee := (.builtin .append), args := #[(.const (.slice none 0 0)), (.tmp 17)], argTypes := #[89, 89] }) 89,
 op1 19 (.fieldAddr 91 (.tmp 5) 4) 0,
 sto 89 19 18] fr st (.seq c48_21 k)) ∧
 (evK gS fi48 c48_17 fr st k = opsR gS fi48 [mv 12 0 29,
 mv 13 4 3,
 ixa 14 29 12 13 0,
 ld 15 91 14 91,
 op1 5 (.alloc 91) 0,
 sto 91 5 15] fr st (.seq c48_19 k)) ∧
 (evK gS fi48 c48_22 fr st k = opsR gS fi48 [mv 10 4 3,
 op1 11 (.binOp .add 3 (.tmp 10) (.const (.int .i64 1)) 3) 3,
 asn 4 11 3] fr st k) ∧
 evK gS fi48 c48_15 fr st k = evK gS fi48 c48_17 fr st (.blk 1 (.seq c48_22 k)) ∧
 evK gS fi48 c48_9 fr st k = evK gS fi48 c48_10 fr st (.seq c48_15 k) ∧
 evK gS fi48 c48_7 fr st k = evK gS fi48 c48_8 fr st (.blk 0 k) ∧
 evK gS fi48 c48_5 fr st k = opsR gS fi48 [op1 4 (.assign (.const (.int .i64 0))) 3] fr st (.seq c48_7 k) ∧
 (evK gS fi48 c48_23 fr st k = opsR gS fi48 [mv 24 3 29,
 asn 2 24 29] fr st (.seq .ret k)) ∧
 evK gS fi48 c48_4 fr st k = evK gS fi48 c48_5 fr st (.seq c48_23 k) ∧
 evK gS fi48 c48_2 fr st k = opsR gS fi48 [op1 3 (.assign (.const (.slice none 0 0))) 29] fr st (.seq c48_4 k) ∧
 evK gS fi48 c48_0 fr st k = opsR gS fi48 [op1 2 (.assign (.const (.slice none 0 0))) 29] fr st (.seq c48_2 k) := ⟨rfl, evK_rs 3 rfl (by kernel_rfl), evK_r 7 (by kernel_rfl), evK_rs 6 rfl (by kernel_rfl), evK_rs 5 rfl (by kernel_rfl), evK_r 4 (by kernel_rfl), rfl, rfl, rfl, evK_rs 2 rfl (by kernel_rfl), evK_rs 8 rfl (by kernel_rfl), rfl, evK_rs 1 rfl (by kernel_rfl), evK_rs 0 rfl (by kernel_rfl)⟩
theorem m48 : mini fi48.body = c48_0 := by kernel_rfl
theorem n48_8 (fr : Fr) (st : St) (k : Kt) : nextK gS fi48 (.loop c48_9 k) .normal fr st = evK gS fi48 c48_8 fr st k := rfl
theorem preds_snoc (l : List Pred) (x : Pred) : encPreds l ++ [.agg [.str x.name, .int .i64 x.test, .int .i64 x.v.kind, .int .i64 x.v.n, .float .f64 x.v.x, .str x.v.s, .bool x.v.b, .int .i64 x.w.kind, .int .i64 x.w.n, .float .f64 x.w.x, .str x.w.s, .bool x.w.b, .slice (encVals x.set)]] = encPreds (l ++ [x]) := by simp [encPreds]
/-- How much room a row's cells take that was laid one by one. -/
def kof {α : Type} (k : Nat) (l : List α) : Nat := if l = [] then 0 else k
set_option maxHeartbeats 8000000 in
theorem L48 (f : List Pred) (h_f : PSm f) (st : St) : ∀ (n i : Nat) (e5 : E) (T : List (Nat × E)) (X : List (Nat × List V)) (ht5 : e5.Tame), i ≤ f.length → f.length - i = n →
    evK gS fi48 c48_8 { ps := [(0, .val (.slice (encPreds f))), (2, .own 0 []), (3, .own (kof 13 (f.take i)) (encPreds (f.take i))), (4, .val (.int .i64 i)), (5, e5)], ts := T, lc := X } st (.blk 0 (.seq c48_23 .nil)) = some (.ret (.slice (encPreds f)) (some (kof 13 f)), st) := by
  intro n
  have hm : fi48.marks = [] := rfl
  have hl : fi48.locals = [5] := rfl
  have hr : fi48.results = [.tmp 2] := rfl
  have hfl := h_f.1
  induction n with
  | zero =>
    intro i e5 T X ht5 hi hn
    obtain rfl : i = f.length := by omega
    refine evK_loop c48_9 _ _ _ _ rfl ?_
    rw [List.take_length]
    by_cases hfe : f = []
    · subst hfe
      simp [ht5, kof, encPreds, -Int.not_le, -Int.not_lt, -Nat.not_le, -Nat.not_lt, ty3, ty4, ty29, ty89, ty91, hm, hl, hr, E48, n48_8]
    · have hk : kof 13 f = 13 := by unfold kof; rw [if_neg hfe]
      rw [hk]
      simp [ht5, -Int.not_le, -Int.not_lt, -Nat.not_le, -Nat.not_lt, ty3, ty4, ty29, ty89, ty91, hm, hl, hr, E48, n48_8]
  | succ n ih =>
    intro i e5 T X ht5 hi hn
    obtain ⟨x, hx⟩ : ∃ x, f[i]? = some x := ⟨f[i]'(by omega), List.getElem?_eq_getElem (by omega)⟩
    have hlt : (i : Int) < (f.length : Int) := by omega
    have hlt2 : i < f.length := by omega
    have hxe : f[i]'hlt2 = x := by rw [List.getElem?_eq_getElem hlt2] at hx; exact Option.some.inj hx
    have hw : IntKind.wrap .i64 ((i : Int) + 1) = ((i + 1 : Nat) : Int) := by rw [wrap64 (by omega) (by omega)]; omega
    have hxs := (h_f.2 x (List.mem_of_getElem? hx)).2
    have hxs2 : x.set.length ≤ 140737488355328 := by omega
    have htk : f.take (i + 1) = f.take i ++ [x] := by rw [List.take_succ_eq_append_getElem hlt2, hxe]
    have IH := fun e5 T X ht5 => ih (i + 1) e5 T X ht5 (by omega) (by omega)
    have hk1 : kof 13 (f.take (i + 1)) = 13 := by rw [htk]; simp [kof]
    rw [hk1, htk] at IH
    have hsv := sizes_vals x.set
    have hsp := sizes_preds (f.take i)
    have hsn := preds_snoc (f.take i) x
    have hln : (f.take i).length = i := by simp; omega
    have b1 : (i + 1) * 144 ≤ 140737488355328 := by omega
    have b2 : i + 1 ≤ 140737488355328 := by omega
    have hk0 : kof 13 (f.take i) = 0 ∧ f.take i = [] ∨ kof 13 (f.take i) = 13 := by
      unfold kof; split
      · exact .inl ⟨rfl, by assumption⟩
      · exact .inr rfl
    refine evK_loop c48_9 _ _ _ _ rfl ?_
    generalize hF : f.take i = F at *
    rcases hk0 with ⟨h1, h2⟩ | h1
    · rw [h1, h2]
      rw [h2] at IH
      have hi0 : i = 0 := by rw [← hln, h2]; rfl
      have hsn0 : encPreds [x] = [.agg [.str x.name, .int .i64 x.test, .int .i64 x.v.kind, .int .i64 x.v.n, .float .f64 x.v.x, .str x.v.s, .bool x.v.b, .int .i64 x.w.kind, .int .i64 x.w.n, .float .f64 x.w.x, .str x.w.s, .bool x.w.b, .slice (encVals x.set)]] := rfl
      rw [List.nil_append, hsn0] at IH
      have en : encPreds [] = [] := rfl
      simp [-Int.natCast_add, en, ht5, hx, hxe, hlt, hlt2, hw, hxs, hxs2, hsv, -Int.not_le, -Int.not_lt, -Nat.not_le, -Nat.not_lt, ty3, ty4, ty29, ty89, ty91, hm, hl, hr, E48, n48_8]
      exact IH _ _ _ rfl
    · rw [h1]
      simp [-Int.natCast_add, ht5, hx, hxe, hlt, hlt2, hw, hxs, hxs2, hsv, hsp, hsn, hln, b1, b2, IH, -Int.not_le, -Int.not_lt, -Nat.not_le, -Nat.not_lt, ty3, ty4, ty29, ty89, ty91, hm, hl, hr, E48, n48_8]
set_option maxHeartbeats 8000000 in
theorem c48 (f : List Pred) (h_f : PSm f) (st : St) : EvF gS 48 [.slice (encPreds f)] st = some (.ret (.slice (encPreds f)) (some (kof 13 f)), st) := by
  refine EvF_start fi51_eq (fun x h => by cases h) m48 ?_
  rw [st48]
  have hm : fi48.marks = [] := rfl
  have hl : fi48.locals = [5] := rfl
  have hr : fi48.results = [.tmp 2] := rfl
  have L0 := fun e5 T X ht5 => L48 f h_f st f.length 0 e5 T X ht5 (Nat.zero_le _) rfl
  simp only [show ((0 : Nat) : Int) = 0 from rfl, List.take_zero, show kof 13 ([] : List Pred) = 0 from rfl, show encPreds [] = [] from rfl] at L0
  simp [L0, -Int.not_le, -Int.not_lt, -Nat.not_le, -Nat.not_lt, ty3, ty4, ty29, ty89, ty91, hm, hl, hr, E48, n48_8]
theorem k48 (f : List Pred) (h_f : PSm f) (fr : Fr) (st : St) : callStep gS (EvF gS) 48 [.slice (encPreds f)] fr st = some (.ok (.own (kof 13 f) (encPreds f)) fr st) :=
  call_pure rfl fi51_eq rfl (fun st => c48 f h_f st) (by simp [V.flat])
theorem psm_right {f : List Pred} (h : ∀ p ∈ f, pright p = true) (hl : f.length ≤ 1000000) : PSm f := by
  refine ⟨hl, fun p hp => ?_⟩
  have hr := h p hp
  refine ⟨(ok_of_right hr).1, ?_⟩
  unfold pright at hr
  split at hr
  · repeat' split at hr
    all_goals first
      | (simp only [Bool.and_eq_true, decide_eq_true_eq] at hr; omega)
      | cases hr
  · cases hr
theorem psm_ffv {f : List Pred} (h : FFV f ∧ f.length ≤ 3) : PSm f := psm_right h.1.right (by omega)
theorem kof_snoc {α : Type} (k : Nat) (l : List α) (x : α) : kof k (l ++ [x]) = k := by unfold kof; rw [if_neg (by simp)]
theorem kof_or {α : Type} (k : Nat) (l : List α) : kof k l = 0 ∧ l = [] ∨ kof k l = k := by
  unfold kof; split
  · exact .inl ⟨rfl, by assumption⟩
  · exact .inr rfl
theorem frz_slice {xs : List V} (h : flats xs = true) (st : St) : frz 6 st (.slice xs) = some (.slice xs, st) := frz_flat 6 st _ (by simpa [V.flat] using h)
def fi51 : FI := { body := codeOf Try.f51, ntmps := 46, results := [.tmp 4], pers := [0, 1, 4, 5, 6], locals := [], pure := true, marks := [1000000] }
theorem fi95_eq : gS.fn 51 = some fi51 := by kernel_rfl
theorem st51 (a0 a1 : V) : startFr fi51 [a0, a1] = { ps := [(0, .val a0), (1, .val a1), (4, .any), (5, .any), (6, .any)], ts := [], lc := [] } := rfl
def b51 : Code := mini (codeOf Try.f51)
def c51_10 : Code := .cond (.tmp 18) .skip (.exit 0)
def c51_8 : Code := .seq (codeN b51 131) c51_10
def c51_14 : Code := codeN b51 163
def c51_13 : Code := .block 1 c51_14
def c51_7 : Code := .seq c51_8 c51_13
def c51_6 : Code := .loop c51_7
def c51_19 : Code := .seq (codeN b51 151) .ret
def c51_18 : Code := .cond (.tmp 32) c51_19 .skip
def c51_16 : Code := .seq (codeN b51 39) c51_18
def r51_26 : Array Oper := regOps (codeN (codeOf Try.f51) 95)
def c51_26 : Code := .region 7 r51_26 true
def q51_26 : List (Oper × Fl) := [(mv 38 6 22, ⟨true, false, true, false, false, false, true, true, false, false, []⟩),
 (mv 39 1 3, ⟨true, false, true, false, false, false, true, true, false, false, []⟩),
 (op1 40 (.buildSlice 22 1 #[(0, (.tmp 39))]) 22, ⟨true, false, true, false, false, false, true, true, false, false, []⟩),
 (op1 41 (.call { callee := (.builtin .append), args := #[(.tmp 38), (.tmp 40)], argTypes := #[22, 22] }) 22, ⟨false, true, true, false, false, true, true, true, false, false, []⟩),
 (mv 42 0 22, ⟨true, false, false, false, false, false, true, false, false, false, []⟩),
 (mv 43 5 3, ⟨true, false, false, false, true, false, true, false, false, false, []⟩),
 (op1 44 (.slice 22 (.tmp 42) (some (.tmp 43)) none none) 22, ⟨true, false, false, false, true, false, true, false, false, false, []⟩),
 (op1 45 (.call { callee := (.builtin .append), args := #[(.tmp 41), (.tmp 44)], argTypes := #[22, 22] }) 22, ⟨false, true, true, false, true, true, true, true, false, false, []⟩),
 (asn 4 45 22, ⟨true, true, true, false, true, false, true, true, false, false, []⟩)]
def c51_25 : Code := .seq c51_26 .ret
def c51_23 : Code := .seq (codeN b51 47) c51_25
def c51_15 : Code := .seq c51_16 c51_23
theorem e51_15 : evK gS fi51 c51_15 fr st k = evK gS fi51 c51_16 fr st (.seq c51_23 k) := rfl
def c51_4 : Code := .seq (.block 0 c51_6) c51_15
def c51_2 : Code := .seq (codeN b51 5) c51_4
def c51_0 : Code := .seq (codeN b51 2) c51_2
theorem E51 : evK gS fi51 c51_10 fr st k = condK gS fi51 (fr.op (.tmp 18)).bool? .skip (.exit 0) fr st k ∧
 (evK gS fi51 c51_8 fr st k = opsR gS fi51 [mv 7 5 3,
 mv 8 0 22,
 len1 9 8 22 3,
 bop 10 .lss 3 7 9 3 4,
 mv 11 10 4,
 mk (some 12) (.move (.tmp 0)) 22 (some (4, true)),
 mk (some 13) (.move (.tmp 5)) 3 (some (4, true)),
 mk (some 14) (.indexAddr 22 (.tmp 12) (.tmp 13)) 0 (some (4, true)),
 mk (some 15) (.load 3 (.tmp 14)) 3 (some (4, true)),
 mk (some 16) (.move (.tmp 1)) 3 (some (4, true)),
 mk (some 17) (.binOp .lss 3 (.tmp 15) (.tmp 16) 3) 4 (some (4, true)),
 op1 18 (.pick (.tmp 11) (.tmp 17) (.const (.bool false))) 4] fr st (.seq c51_10 k)) ∧
 (evK gS fi51 c51_14 fr st k = opsR gS fi51 [mv 19 5 3,
 op1 20 (.binOp .add 3 (.tmp 19) (.const (.int .i64 1)) 3) 3,
 asn 5 20 3] fr st k) ∧
 evK gS fi51 c51_13 fr st k = evK gS fi51 c51_14 fr st (.blk 1 k) ∧
 evK gS fi51 c51_7 fr st k = evK gS fi51 c51_8 fr st (.seq c51_13 k) ∧
 (evK gS fi51 c51_19 fr st k = opsR gS fi51 [mv 33 0 22,
 asn 4 33 22] fr st (.seq .ret k)) ∧
 evK gS fi51 c51_18 fr st k = condK gS fi51 (fr.op (.tmp 32)).bool? c51_19 .skip fr st k ∧
 (evK gS fi51 c51_16 fr st k = opsR gS fi51 [mv 21 5 3,
 mv 22 0 22,
 len1 23 22 22 3,
 bop 24 .lss 3 21 23 3 4,
 mv 25 24 4,
 mk (some 26) (.move (.tmp 0)) 22 (some (4, true)),
 mk (some 27) (.move (.tmp 5)) 3 (some (4, true)),
 mk (some 28) (.indexAddr 22 (.tmp 26) (.tmp 27)) 0 (some (4, true)),
 mk (some 29) (.load 3 (.tmp 28)) 3 (some (4, true)),
 mk (some 30) (.move (.tmp 1)) 3 (some (4, true)),
 mk (some 31) (.binOp .eql 3 (.tmp 29) (.tmp 30) 3) 4 (some (4, true)),
 op1 32 (.pick (.tmp 25) (.tmp 31) (.const (.bool false))) 4] fr st (.seq c51_18 k)) ∧
 evK gS fi51 c51_26 fr st k = drwR gS fi51 r51_26 q51_26 fr st k ∧
 evK gS fi51 c51_25 fr st k = evK gS fi51 c51_26 fr st (.seq .ret k) ∧
 (evK gS fi51 c51_23 fr st k = opsR gS fi51 [mv 34 0 22,
 mv 35 5 3,
 op1 36 (.slice 22 (.tmp 34) none (some (.tmp 35)) none) 22,
 op1 37 (.call { callee := (.builtin .append), args := #[(.const (.slice none 0 0)), (.tmp 36)], argTypes := #[22, 22] }) 22,
 asn 6 37 22] fr st (.seq c51_25 k)) ∧
 evK gS fi51 c51_4 fr st k = evK gS fi51 c51_6 fr st (.blk 0 (.seq c51_15 k)) ∧
 evK gS fi51 c51_2 fr st k = opsR gS fi51 [op1 5 (.assign (.const (.int .i64 0))) 3] fr st (.seq c51_4 k) ∧
 evK gS fi51 c51_0 fr st k = opsR gS fi51 [op1 4 (.assign (.const (.slice none 0 0))) 22] fr st (.seq c51_2 k) := ⟨rfl, evK_rs 2 rfl (by kernel_rfl), evK_r 3 (by kernel_rfl), rfl, rfl, evK_rs 5 rfl (by kernel_rfl), rfl, evK_rs 4 rfl (by kernel_rfl), evK_dr 7 rfl (by kernel_rfl) (by kernel_rfl), rfl, evK_rs 6 rfl (by kernel_rfl), rfl, evK_rs 1 rfl (by kernel_rfl), evK_rs 0 rfl (by kernel_rfl)⟩
theorem m51 : mini fi51.body = c51_0 := by kernel_rfl
theorem n51_6 (fr : Fr) (st : St) (k : Kt) : nextK gS fi51 (.loop c51_7 k) .normal fr st = evK gS fi51 c51_6 fr st k := rfl
theorem bl1 : borOk r51_26 0 6 38 = true := by kernel_rfl
theorem bl2 : handOk r51_26 8 45 = true := by kernel_rfl
set_option maxHeartbeats 8000000 in
theorem L51 (l : List Int) (hl1 : l.length < 1000000) (n0 : Int) (st : St) (X : List (Nat × List V)) (R : Out × St)
    (H : ∀ T, evK gS fi51 c51_15 { ps := [(0, .val (.slice (intVs l))), (1, .val (.int .i64 n0)), (4, .own 0 []), (5, .val (.int .i64 (posI l n0 : Nat))), (6, .any)], ts := T, lc := X } st .nil = some R) :
    ∀ (m i : Nat) (T : List (Nat × E)), i ≤ posI l n0 → posI l n0 - i = m → evK gS fi51 c51_6 { ps := [(0, .val (.slice (intVs l))), (1, .val (.int .i64 n0)), (4, .own 0 []), (5, .val (.int .i64 (i : Nat))), (6, .any)], ts := T, lc := X } st (.blk 0 (.seq c51_15 .nil)) = some R := by
  intro m
  have hm : fi51.marks = [1000000] := rfl
  have hl : fi51.locals = [] := rfl
  have hr : fi51.results = [.tmp 4] := rfl
  have hpl := posI_le l n0
  induction m with
  | zero =>
    intro i T hi hm2
    obtain rfl : i = posI l n0 := by omega
    refine evK_loop c51_7 _ _ _ _ rfl ?_
    cases hx : l[posI l n0]? with
    | none =>
      have h1 : ¬ ((posI l n0 : Nat) : Int) < (l.length : Int) := by rw [List.getElem?_eq_none_iff] at hx; omega
      simp [-Int.natCast_add, h1, H, -Int.not_le, -Int.not_lt, -Nat.not_le, -Nat.not_lt, ty3, ty4, ty22, hm, hl, hr, E51, q51_26, n51_6]
    | some x =>
      obtain ⟨h2, h3⟩ := List.getElem?_eq_some_iff.1 hx
      have h1 : ((posI l n0 : Nat) : Int) < (l.length : Int) := by omega
      have h4 := posI_ge l n0 x hx
      simp [-Int.natCast_add, h1, h2, h3, h4, hx, H, -Int.not_le, -Int.not_lt, -Nat.not_le, -Nat.not_lt, ty3, ty4, ty22, hm, hl, hr, E51, q51_26, n51_6]
  | succ m ih =>
    intro i T hi hm2
    have h2 : i < l.length := by omega
    obtain ⟨x, hx⟩ : ∃ x, l[i]? = some x := ⟨l[i]'h2, List.getElem?_eq_getElem h2⟩
    have h3 : l[i]'h2 = x := (List.getElem?_eq_some_iff.1 hx).2
    have h1 : (i : Int) < (l.length : Int) := by omega
    have h4 := posI_lt l n0 i x (by omega) hx
    have hw : IntKind.wrap .i64 ((i : Int) + 1) = ((i + 1 : Nat) : Int) := by rw [wrap64 (by omega) (by omega)]; omega
    have IH := fun T => ih (i + 1) T (by omega) (by omega)
    refine evK_loop c51_7 _ _ _ _ rfl ?_
    simp [-Int.natCast_add, h1, h2, h3, h4, hx, hw, IH, -Int.not_le, -Int.not_lt, -Nat.not_le, -Nat.not_lt, ty3, ty4, ty22, hm, hl, hr, E51, q51_26, n51_6]
set_option maxHeartbeats 8000000 in
theorem c51 (l : List Int) (hl1 : l.length < 1000000) (n0 : Int) (st : St) : EvF gS 51 [.slice (intVs l), .int .i64 n0] st = some (.ret (.slice (intVs (layI l n0))) none, st) := by
  refine EvF_start fi95_eq (fun x h => by cases h) m51 ?_
  rw [st51]
  have hm : fi51.marks = [1000000] := rfl
  have hl : fi51.locals = [] := rfl
  have hr : fi51.results = [.tmp 4] := rfl
  have hpl := posI_le l n0
  have hz := fun xs st => frz_slice (xs := intVs xs) (flats_ints xs) st
  generalize hR : (Out.ret (V.slice (intVs (layI l n0))) none, st) = R
  have LL := fun X H T => L51 l hl1 n0 st X R H (posI l n0) 0 T (Nat.zero_le _) rfl
  rw [show ((0 : Nat) : Int) = 0 from rfl] at LL
  simp [-Int.natCast_add, -Int.not_le, -Int.not_lt, -Nat.not_le, -Nat.not_lt, ty3, ty4, ty22, hm, hl, hr, E51, q51_26, e51_15, n51_6, bl1, bl2]
  refine LL _ (fun T => ?_) _
  clear LL
  subst hR
  rw [layI_eq]
  generalize posI l n0 = p at *
  have hp0 : (0 : Int) ≤ (p : Int) := by omega
  have hp1 : (p : Int) ≤ (l.length : Int) := by omega
  have hsi := sizes_ints
  have e0 : (intVs l).take l.length = intVs l := List.take_of_length_le (by simp)
  have e1 := ints_take l p
  have e2 := ints_drop l p
  have e3 := ints_snoc (l.take p) n0
  have e4 := ints_append (l.take p ++ [n0]) (l.drop p)
  have e5 : (l.drop p).length = l.length - p := by simp
  have e6 : (l.take p).length = p := by simp; omega
  have b1 : p * 8 ≤ 140737488355328 := by omega
  have b2 : p ≤ 140737488355328 := by omega
  have b3 : (p + 1) * 8 ≤ 140737488355328 := by omega
  have b4 : p + 1 ≤ 140737488355328 := by omega
  have b5 : (p + 1 + (l.length - p)) * 8 ≤ 140737488355328 := by omega
  have b6 : p + 1 + (l.length - p) ≤ 140737488355328 := by omega
  cases hx : l[p]? with
  | none =>
    have h1 : ¬ (p : Int) < (l.length : Int) := by rw [List.getElem?_eq_none_iff] at hx; omega
    simp [-Int.natCast_add, -List.append_assoc, h1, hz, hp0, hp1, hsi, e0, e1, e2, e3, e4, e5, e6, b1, b2, b3, b4, b5, b6, -Int.not_le, -Int.not_lt, -Nat.not_le, -Nat.not_lt, ty3, ty4, ty22, hm, hl, hr, E51, q51_26, e51_15, n51_6, bl1, bl2]
  | some x =>
    obtain ⟨h2, h3⟩ := List.getElem?_eq_some_iff.1 hx
    have h1 : (p : Int) < (l.length : Int) := by omega
    by_cases h4 : x = n0
    · subst h4
      simp [-Int.natCast_add, h1, h2, h3, hx, hz, -Int.not_le, -Int.not_lt, -Nat.not_le, -Nat.not_lt, ty3, ty4, ty22, hm, hl, hr, E51, q51_26, e51_15, n51_6, bl1, bl2]
    · simp [-Int.natCast_add, -List.append_assoc, h1, h2, h3, h4, hx, hz, hp0, hp1, hsi, e0, e1, e2, e3, e4, e5, e6, b1, b2, b3, b4, b5, b6, -Int.not_le, -Int.not_lt, -Nat.not_le, -Nat.not_lt, ty3, ty4, ty22, hm, hl, hr, E51, q51_26, e51_15, n51_6, bl1, bl2]
theorem k51 (l : List Int) (hl1 : l.length < 1000000) (n0 : Int) (fr : Fr) (st : St) : callStep gS (EvF gS) 51 [.slice (intVs l), .int .i64 n0] fr st = some (.ok (.val (.slice (intVs (layI l n0)))) fr st) :=
  call_pure rfl fi95_eq rfl (fun st => c51 l hl1 n0 st) (by simp [V.flat])
def fi57 : FI := { body := codeOf Try.f57, ntmps := 17, results := [.tmp 4], pers := [0, 1, 4, 6, 7, 8, 9], locals := [], pure := true, marks := [] }
theorem fi98_eq : gS.fn 57 = some fi57 := by kernel_rfl
theorem st57 (a0 a1 : V) : startFr fi57 [a0, a1] = { ps := [(0, .val a0), (1, .val a1), (4, .any), (6, .any), (7, .any), (8, .any), (9, .any)], ts := [], lc := [] } := rfl
def b57 : Code := mini (codeOf Try.f57)
def c57_20 : Code := .seq (codeN b57 9829) .ret
def c57_19 : Code := .cond (.tmp 15) c57_20 .skip
def c57_17 : Code := .seq (codeN b57 2661) c57_19
def c57_15 : Code := .seq (codeN b57 1125) c57_17
def c57_24 : Code := codeN b57 485
def c57_13 : Code := .seq (.block 1 c57_15) c57_24
def c57_9 : Code := .seq (.cond (.tmp 10) .skip (.exit 0)) c57_13
def c57_7 : Code := .seq (codeN b57 69) c57_9
def c57_6 : Code := .loop c57_7
def c57_5 : Code := .block 0 c57_6
def c57_3 : Code := .seq (codeN b57 9) c57_5
def c57_25 : Code := .seq (codeN b57 11) .ret
def c57_2 : Code := .seq c57_3 c57_25
def c57_0 : Code := .seq (codeN b57 2) c57_2
theorem E57 : evK gS fi57 c57_20 fr st k = opsR gS fi57 [op1 4 (.assign (.const (.bool true))) 4] fr st (.seq .ret k) ∧
 evK gS fi57 c57_19 fr st k = condK gS fi57 (fr.op (.tmp 15)).bool? c57_20 .skip fr st k ∧
 (evK gS fi57 c57_17 fr st k = opsR gS fi57 [mv 13 6 3,
 mv 14 1 3,
 bop 15 .eql 3 13 14 3 4] fr st (.seq c57_19 k)) ∧
 (evK gS fi57 c57_15 fr st k = opsR gS fi57 [ixa 11 22 7 9 0,
 ld 12 3 11 3,
 asn 6 12 3] fr st (.seq c57_17 k)) ∧
 (evK gS fi57 c57_24 fr st k = opsR gS fi57 [op1 16 (.binOp .add 3 (.tmp 9) (.const (.int .i64 1)) 3) 3,
 mv 9 16 3] fr st k) ∧
 evK gS fi57 c57_13 fr st k = evK gS fi57 c57_15 fr st (.blk 1 (.seq c57_24 k)) ∧
 evK gS fi57 c57_9 fr st k = condK gS fi57 (fr.op (.tmp 10)).bool? .skip (.exit 0) fr st (.seq c57_13 k) ∧
 evK gS fi57 c57_7 fr st k = opsR gS fi57 [bop 10 .lss 3 9 8 3 0] fr st (.seq c57_9 k) ∧
 evK gS fi57 c57_5 fr st k = evK gS fi57 c57_6 fr st (.blk 0 k) ∧
 (evK gS fi57 c57_3 fr st k = opsR gS fi57 [mv 7 0 22,
 len1 8 7 22 3,
 op1 9 (.move (.const (.int .i64 0))) 3] fr st (.seq c57_5 k)) ∧
 evK gS fi57 c57_25 fr st k = opsR gS fi57 [op1 4 (.assign (.const (.bool false))) 4] fr st (.seq .ret k) ∧
 evK gS fi57 c57_2 fr st k = evK gS fi57 c57_3 fr st (.seq c57_25 k) ∧
 evK gS fi57 c57_0 fr st k = opsR gS fi57 [op1 4 (.assign (.const (.bool false))) 4] fr st (.seq c57_2 k) := ⟨evK_rs 5 rfl (by kernel_rfl), rfl, evK_rs 4 rfl (by kernel_rfl), evK_rs 3 rfl (by kernel_rfl), evK_r 6 (by kernel_rfl), rfl, rfl, evK_rs 2 rfl (by kernel_rfl), rfl, evK_rs 1 rfl (by kernel_rfl), evK_rs 7 rfl (by kernel_rfl), rfl, evK_rs 0 rfl (by kernel_rfl)⟩
theorem m57 : mini fi57.body = c57_0 := by kernel_rfl
theorem n57_6 (fr : Fr) (st : St) (k : Kt) : nextK gS fi57 (.loop c57_7 k) .normal fr st = evK gS fi57 c57_6 fr st k := rfl
set_option maxHeartbeats 4000000 in
theorem L57_6 (l : List Int) (n0 : Int) (h_l : l.length < 4611686018427387904) (st : St) : ∀ (n i : Nat) (j : Int)  (e0 e6 : E) (T : List (Nat × E)) (X : List (Nat × List V)) (ht0 : e0.Tame) (ht6 : e6.Tame) , j = (i : Int) → i ≤ (l).length → (l).length - i = n →
    evK gS fi57 c57_6 { ps := [(0, e0), (1, .val (.int .i64 n0)), (4, .val (.bool false)), (6, e6), (7, .val (.slice (intVs l))), (8, .val (.int .i64 l.length)), (9, .val (.int .i64 j))], ts := T, lc := X } st (.blk 0 (.seq c57_25 .nil)) = some ((.ret (.bool (hasI (l.drop i) n0)) none), st) := by
  intro n
  have hm : fi57.marks = [] := rfl
  have hl : fi57.locals = [] := rfl
  have hr : fi57.results = [.tmp 4] := rfl
  induction n with
  | zero =>
    intro i j  e0 e6 T X ht0 ht6  hj hi hn
    obtain rfl : i = (l).length := by omega
    subst hj
    refine evK_loop c57_7 _ st _ _ rfl ?_
    simp (config := { contextual := true, maxSteps := 10000000, maxDischargeDepth := 6 }) [-Int.not_le, -Int.not_lt, -Nat.not_le, -Nat.not_lt, ty3, ty4, ty22, hm, hl, hr, E57, n57_6, ht0, ht6]
    all_goals try simp (config := { contextual := true }) [-Int.not_le, -Int.not_lt, -Nat.not_le, -Nat.not_lt, hasI]
    all_goals first | done | grind | omega | (trace_state; fail)
  | succ n ih =>
    intro i j  e0 e6 T X ht0 ht6  hj hi hn
    subst hj
    obtain ⟨x, hx⟩ : ∃ x, (l)[i]? = some x := ⟨(l)[i]'(by omega), List.getElem?_eq_getElem (by omega)⟩
    have hd := drop_get hx
    have hlt : (i : Int) < ((l).length : Int) := by omega
    have hlt2 : i < (l).length := by omega
    have hxe : (l)[i]'hlt2 = x := by rw [List.getElem?_eq_getElem hlt2] at hx; exact Option.some.inj hx
    have hw : IntKind.wrap .i64 ((i : Int) + 1) = (i : Int) + 1 := wrap64 (by omega) (by omega)
    have IH := fun e0 e6 T X ht0 ht6 => ih (i + 1) ((i : Int) + 1) e0 e6 T X ht0 ht6 rfl (by omega) (by omega)
    refine evK_loop c57_7 _ st _ _ rfl ?_
    simp (config := { contextual := true, maxSteps := 10000000, maxDischargeDepth := 6 }) [-Int.not_le, -Int.not_lt, -Nat.not_le, -Nat.not_lt, ty3, ty4, ty22, hm, hl, hr, E57, n57_6, ht0, ht6, hx, hxe, hd, hlt, hlt2, hw, IH]
    all_goals try simp (config := { contextual := true }) [-Int.not_le, -Int.not_lt, -Nat.not_le, -Nat.not_lt, hasI]
    all_goals first | done | grind | omega | (trace_state; fail)
set_option maxHeartbeats 4000000 in
theorem c57 (l : List Int) (n0 : Int)  (h_l : l.length < 4611686018427387904) (st : St) : EvF gS 57 [.slice (intVs l), .int .i64 n0] st = some (.ret (.bool (hasI l n0)) none, st) := by
  refine EvF_start fi98_eq (fun x h => by cases h) m57 ?_
  rw [st57]
  have hm : fi57.marks = [] := rfl
  have hl : fi57.locals = [] := rfl
  have hr : fi57.results = [.tmp 4] := rfl
  simp (config := { contextual := true, maxSteps := 10000000, maxDischargeDepth := 6 }) [-Int.not_le, -Int.not_lt, -Nat.not_le, -Nat.not_lt, ty3, ty4, ty22, hm, hl, hr, E57, n57_6, (fun e0 e6 T X ht0 ht6 => L57_6 l n0 h_l st _ 0 0  e0 e6 T X ht0 ht6 rfl (Nat.zero_le _) rfl), h_l]
  all_goals try simp (config := { contextual := true }) [-Int.not_le, -Int.not_lt, -Nat.not_le, -Nat.not_lt, hasI]
  all_goals first | done | grind | omega | (trace_state; fail)
theorem k57 (l : List Int) (n0 : Int)  (h_l : l.length < 4611686018427387904) (fr : Fr) (st : St) : callStep gS (EvF gS) 57 [.slice (intVs l), .int .i64 n0] fr st = some (.ok (retE none (.bool (hasI l n0))) fr st) :=
  call_pure rfl fi98_eq rfl (fun st => c57 l n0 h_l st) (by simp)
def fi19 : FI := { body := codeOf Try.f19, ntmps := 25, results := [.tmp 4], pers := [0, 1, 4, 5, 6, 7, 8, 9, 10], locals := [7], pure := true, marks := [1000000] }
theorem fi59_eq : gS.fn 19 = some fi19 := by kernel_rfl
theorem st19 (a0 a1 : V) : startFr fi19 [a0, a1] = { ps := [(0, .val a0), (1, .val a1), (4, .any), (5, .any), (6, .any), (7, .any), (8, .any), (9, .any), (10, .any)], ts := [], lc := [] } := rfl
def b19 : Code := mini (codeOf Try.f19)
def c19_22 : Code := codeN b19 11467
def c19_21 : Code := .cond (.tmp 18) c19_22 .skip
def c19_19 : Code := .seq (codeN b19 5323) c19_21
def c19_17 : Code := .seq (codeN b19 2251) c19_19
def c19_24 : Code := codeN b19 971
def c19_15 : Code := .seq (.block 1 c19_17) c19_24
def c19_11 : Code := .seq (.cond (.tmp 11) .skip (.exit 0)) c19_15
def c19_9 : Code := .seq (codeN b19 139) c19_11
def c19_8 : Code := .loop c19_9
def c19_7 : Code := .block 0 c19_8
def c19_5 : Code := .seq (codeN b19 19) c19_7
def c19_25 : Code := .seq (codeN b19 23) .ret
def c19_4 : Code := .seq c19_5 c19_25
def c19_2 : Code := .seq (codeN b19 5) c19_4
def c19_0 : Code := .seq (codeN b19 2) c19_2
theorem E19 : (evK gS fi19 c19_22 fr st k = opsR gS fi19 [mv 19 5 22,
 mv 20 6 3,
 op1 21 (.buildSlice 22 1 #[(0, (.tmp 20))]) 22,
 op1 22 (.call { callee := (.builtin .append), args := #[(.tmp 19), (.tmp 21)], argTypes := #[22, 22] }) 22,
 asn 5 22 22] fr st k) ∧
 evK gS fi19 c19_21 fr st k = condK gS fi19 (fr.op (.tmp 18)).bool? c19_22 .skip fr st k ∧
 (evK gS fi19 c19_19 fr st k = opsR gS fi19 [op1 15 (.fieldAddr 39 (.tmp 7) 0) 0,
 ld 16 29 15 29,
 mv 17 1 42,
 cal 18 44 [(.tmp 16), (.tmp 17)] [29, 42] 4] fr st (.seq c19_21 k)) ∧
 (evK gS fi19 c19_17 fr st k = opsR gS fi19 [mv 12 10 3,
 ixa 13 32 8 10 0,
 ld 14 39 13 39,
 op1 7 (.alloc 39) 0,
 asn 6 12 3,
 sto 39 7 14] fr st (.seq c19_19 k)) ∧
 (evK gS fi19 c19_24 fr st k = opsR gS fi19 [op1 23 (.binOp .add 3 (.tmp 10) (.const (.int .i64 1)) 3) 3,
 mv 10 23 3] fr st k) ∧
 evK gS fi19 c19_15 fr st k = evK gS fi19 c19_17 fr st (.blk 1 (.seq c19_24 k)) ∧
 evK gS fi19 c19_11 fr st k = condK gS fi19 (fr.op (.tmp 11)).bool? .skip (.exit 0) fr st (.seq c19_15 k) ∧
 evK gS fi19 c19_9 fr st k = opsR gS fi19 [bop 11 .lss 3 10 9 3 0] fr st (.seq c19_11 k) ∧
 evK gS fi19 c19_7 fr st k = evK gS fi19 c19_8 fr st (.blk 0 k) ∧
 (evK gS fi19 c19_5 fr st k = opsR gS fi19 [mv 8 0 32,
 len1 9 8 32 3,
 op1 10 (.move (.const (.int .i64 0))) 3] fr st (.seq c19_7 k)) ∧
 (evK gS fi19 c19_25 fr st k = opsR gS fi19 [mv 24 5 22,
 asn 4 24 22] fr st (.seq .ret k)) ∧
 evK gS fi19 c19_4 fr st k = evK gS fi19 c19_5 fr st (.seq c19_25 k) ∧
 evK gS fi19 c19_2 fr st k = opsR gS fi19 [op1 5 (.assign (.const (.slice none 0 0))) 22] fr st (.seq c19_4 k) ∧
 evK gS fi19 c19_0 fr st k = opsR gS fi19 [op1 4 (.assign (.const (.slice none 0 0))) 22] fr st (.seq c19_2 k) := ⟨evK_r 6 (by kernel_rfl), rfl, evK_rs 5 rfl (by kernel_rfl), evK_rs 4 rfl (by kernel_rfl), evK_r 7 (by kernel_rfl), rfl, rfl, evK_rs 3 rfl (by kernel_rfl), rfl, evK_rs 2 rfl (by kernel_rfl), evK_rs 8 rfl (by kernel_rfl), rfl, evK_rs 1 rfl (by kernel_rfl), evK_rs 0 rfl (by kernel_rfl)⟩
theorem m19 : mini fi19.body = c19_0 := by kernel_rfl
theorem n19_8 (fr : Fr) (st : St) (k : Kt) : nextK gS fi19 (.loop c19_9 k) .normal fr st = evK gS fi19 c19_8 fr st k := rfl
set_option maxHeartbeats 8000000 in
theorem L19 (g : List Grp) (hg : ∀ x ∈ g, POk x.filter ∧ x.clients.length < 1000) (hgl : g.length < 1000000) (A : List Attr) (hA : A.length < 4611686018427387904) (st : St) : ∀ (m i : Nat) (out : List Int) (e0 e6 e7 : E) (T : List (Nat × E)) (X : List (Nat × List V)) (h0 : e0.Tame) (h6 : e6.Tame) (h7 : e7.Tame), i ≤ g.length → g.length - i = m → out.length ≤ i →
    evK gS fi19 c19_8 { ps := [(0, e0), (1, .val (.slice (encAttrs A))), (4, .own 0 []), (5, .own (kof 1 out) (intVs out)), (6, e6), (7, e7), (8, .val (.slice (encGrps g))), (9, .val (.int .i64 g.length)), (10, .val (.int .i64 (i : Nat)))], ts := T, lc := X } st (.blk 0 (.seq c19_25 .nil)) = some (.ret (.slice (intVs (matchG A i (g.drop i) out))) none, st) := by
  intro m
  have hm : fi19.marks = [1000000] := rfl
  have hl : fi19.locals = [7] := rfl
  have hr : fi19.results = [.tmp 4] := rfl
  have hz := fun xs st => frz_slice (xs := intVs xs) (flats_ints xs) st
  induction m with
  | zero =>
    intro i out e0 e6 e7 T X h0 h6 h7 hi hm2 ho
    obtain rfl : i = g.length := by omega
    rw [List.drop_length]
    refine evK_loop c19_9 _ _ _ _ rfl ?_
    rcases kof_or 1 out with ⟨hk, rfl⟩ | hk
    · have en : intVs [] = [] := rfl
      have hz0 := hz [] st
      rw [en] at hz0
      rw [hk, en]
      simp [h0, h6, h7, hz0, matchG, mineG, en, -Int.not_le, -Int.not_lt, -Nat.not_le, -Nat.not_lt, ty3, ty4, ty22, ty29, ty32, ty39, ty42, hm, hl, hr, E19, n19_8]
    · rw [hk]
      simp [h0, h6, h7, hz, matchG, mineG, -Int.not_le, -Int.not_lt, -Nat.not_le, -Nat.not_lt, ty3, ty4, ty22, ty29, ty32, ty39, ty42, hm, hl, hr, E19, n19_8]
  | succ m ih =>
    intro i out e0 e6 e7 T X h0 h6 h7 hi hm2 ho
    obtain ⟨x, hx⟩ : ∃ x, g[i]? = some x := ⟨g[i]'(by omega), List.getElem?_eq_getElem (by omega)⟩
    have hd := drop_get hx
    have hlt : (i : Int) < (g.length : Int) := by omega
    obtain ⟨hlt2, hxe⟩ := List.getElem?_eq_some_iff.1 hx
    have hw : IntKind.wrap .i64 ((i : Int) + 1) = ((i + 1 : Nat) : Int) := by rw [wrap64 (by omega) (by omega)]; omega
    have hxg := hg x (List.mem_of_getElem? hx)
    rw [hd]
    refine evK_loop c19_9 _ _ _ _ rfl ?_
    have kk : ∀ (fr : Fr) (st : St), callStep gS (EvF gS) 44 [.slice (encPreds x.filter), .slice (encAttrs A)] fr st = some (.ok (.val (.bool (ftakes x.filter A))) fr st) := fun fr st => k44 x.filter A hxg.1 hA fr st
    cases hb : ftakes x.filter A with
    | false =>
      have IH := fun e0 e6 e7 T X h0 h6 h7 => ih (i + 1) out e0 e6 e7 T X h0 h6 h7 (by omega) (by omega) (by omega)
      rw [show matchG A i (x :: g.drop (i + 1)) out = matchG A (i + 1) (g.drop (i + 1)) out from by simp [matchG, mineG, hb]]
      rw [hb] at kk
      rcases kof_or 1 out with ⟨hk, rfl⟩ | hk
      · have en : intVs [] = [] := rfl
        rw [hk, en] at IH ⊢
        simp [-Int.natCast_add, h0, h6, h7, hx, hxe, hlt, hlt2, hw, kk, -Int.not_le, -Int.not_lt, -Nat.not_le, -Nat.not_lt, ty3, ty4, ty22, ty29, ty32, ty39, ty42, hm, hl, hr, E19, n19_8]
        refine IH _ _ _ _ _ ?_ ?_ ?_
        all_goals simp [h0, h6, h7]
      · rw [hk] at IH ⊢
        simp [-Int.natCast_add, h0, h6, h7, hx, hxe, hlt, hlt2, hw, kk, -Int.not_le, -Int.not_lt, -Nat.not_le, -Nat.not_lt, ty3, ty4, ty22, ty29, ty32, ty39, ty42, hm, hl, hr, E19, n19_8]
        refine IH _ _ _ _ _ ?_ ?_ ?_
        all_goals simp [h0, h6, h7]
    | true =>
      have IH := fun e0 e6 e7 T X h0 h6 h7 => ih (i + 1) (out ++ [(i : Int)]) e0 e6 e7 T X h0 h6 h7 (by omega) (by omega) (by simp; omega)
      rw [show matchG A i (x :: g.drop (i + 1)) out = matchG A (i + 1) (g.drop (i + 1)) (out ++ [(i : Int)]) from by simp [matchG, mineG, hb]]
      rw [hb] at kk
      rw [kof_snoc] at IH
      have hs1 := sizes_ints out
      have hs2 := ints_snoc out (i : Int)
      have b1 : (out.length + 1) * 8 ≤ 140737488355328 := by omega
      have b2 : out.length + 1 ≤ 140737488355328 := by omega
      rcases kof_or 1 out with ⟨hk, rfl⟩ | hk
      · have en : intVs [] = [] := rfl
        have en1 : intVs ([] ++ [(i : Int)]) = [.int .i64 (i : Int)] := rfl
        rw [en1] at IH
        rw [hk, en]
        simp [-Int.natCast_add, h0, h6, h7, hx, hxe, hlt, hlt2, hw, kk, -Int.not_le, -Int.not_lt, -Nat.not_le, -Nat.not_lt, ty3, ty4, ty22, ty29, ty32, ty39, ty42, hm, hl, hr, E19, n19_8]
        refine IH _ _ _ _ _ ?_ ?_ ?_
        all_goals simp [h0, h6, h7]
      · rw [hk]
        simp [-Int.natCast_add, -List.append_assoc, h0, h6, h7, hx, hxe, hlt, hlt2, hw, kk, hs1, hs2, b1, b2, -Int.not_le, -Int.not_lt, -Nat.not_le, -Nat.not_lt, ty3, ty4, ty22, ty29, ty32, ty39, ty42, hm, hl, hr, E19, n19_8]
        refine IH _ _ _ _ _ ?_ ?_ ?_
        all_goals simp [h0, h6, h7]
set_option maxHeartbeats 8000000 in
theorem c19 (g : List Grp) (hg : ∀ x ∈ g, POk x.filter ∧ x.clients.length < 1000) (hgl : g.length < 1000000) (A : List Attr) (hA : A.length < 4611686018427387904) (st : St) : EvF gS 19 [.slice (encGrps g), .slice (encAttrs A)] st = some (.ret (.slice (intVs (gmatch g A))) none, st) := by
  refine EvF_start fi59_eq (fun x h => by cases h) m19 ?_
  rw [st19]
  have hm : fi19.marks = [1000000] := rfl
  have hl : fi19.locals = [7] := rfl
  have hr : fi19.results = [.tmp 4] := rfl
  have L0 := fun e0 e6 e7 T X h0 h6 h7 => L19 g hg hgl A hA st g.length 0 [] e0 e6 e7 T X h0 h6 h7 (Nat.zero_le _) rfl (Nat.le_refl _)
  simp only [show ((0 : Nat) : Int) = 0 from rfl, List.drop_zero, show kof 1 ([] : List Int) = 0 from rfl, show intVs [] = [] from rfl] at L0
  show _ = some (Out.ret (V.slice (intVs (matchG A 0 g []))) none, st)
  simp [L0, -Int.not_le, -Int.not_lt, -Nat.not_le, -Nat.not_lt, ty3, ty4, ty22, ty29, ty32, ty39, ty42, hm, hl, hr, E19, n19_8]
theorem k19 (g : List Grp) (hg : ∀ x ∈ g, POk x.filter ∧ x.clients.length < 1000) (hgl : g.length < 1000000) (A : List Attr) (hA : A.length < 4611686018427387904) (fr : Fr) (st : St) : callStep gS (EvF gS) 19 [.slice (encGrps g), .slice (encAttrs A)] fr st = some (.ok (.val (.slice (intVs (gmatch g A)))) fr st) :=
  call_pure rfl fi59_eq rfl (fun st => c19 g hg hgl A hA st) (by simp [V.flat])
def fi24 : FI := { body := codeOf Try.f24, ntmps := 25, results := [.tmp 4], pers := [0, 1, 4, 5, 6, 7, 8, 9, 10], locals := [7], pure := true, marks := [1000000] }
theorem fi64_eq : gS.fn 24 = some fi24 := by kernel_rfl
theorem st24 (a0 a1 : V) : startFr fi24 [a0, a1] = { ps := [(0, .val a0), (1, .val a1), (4, .any), (5, .any), (6, .any), (7, .any), (8, .any), (9, .any), (10, .any)], ts := [], lc := [] } := rfl
def b24 : Code := mini (codeOf Try.f24)
def c24_22 : Code := codeN b24 11467
def c24_21 : Code := .cond (.tmp 18) c24_22 .skip
def c24_19 : Code := .seq (codeN b24 5323) c24_21
def c24_17 : Code := .seq (codeN b24 2251) c24_19
def c24_24 : Code := codeN b24 971
def c24_15 : Code := .seq (.block 1 c24_17) c24_24
def c24_11 : Code := .seq (.cond (.tmp 11) .skip (.exit 0)) c24_15
def c24_9 : Code := .seq (codeN b24 139) c24_11
def c24_8 : Code := .loop c24_9
def c24_7 : Code := .block 0 c24_8
def c24_5 : Code := .seq (codeN b24 19) c24_7
def c24_25 : Code := .seq (codeN b24 23) .ret
def c24_4 : Code := .seq c24_5 c24_25
def c24_2 : Code := .seq (codeN b24 5) c24_4
def c24_0 : Code := .seq (codeN b24 2) c24_2
theorem E24 : (evK gS fi24 c24_22 fr st k = opsR gS fi24 [mv 19 5 22,
 mv 20 6 3,
 op1 21 (.buildSlice 22 1 #[(0, (.tmp 20))]) 22,
 op1 22 (.call { callee := (.builtin .append), args := #[(.tmp 19), (.tmp 21)], argTypes := #[22, 22] }) 22,
 asn 5 22 22] fr st k) ∧
 evK gS fi24 c24_21 fr st k = condK gS fi24 (fr.op (.tmp 18)).bool? c24_22 .skip fr st k ∧
 (evK gS fi24 c24_19 fr st k = opsR gS fi24 [op1 15 (.fieldAddr 39 (.tmp 7) 1) 0,
 ld 16 22 15 22,
 mv 17 1 3,
 cal 18 57 [(.tmp 16), (.tmp 17)] [22, 3] 4] fr st (.seq c24_21 k)) ∧
 (evK gS fi24 c24_17 fr st k = opsR gS fi24 [mv 12 10 3,
 ixa 13 32 8 10 0,
 ld 14 39 13 39,
 op1 7 (.alloc 39) 0,
 asn 6 12 3,
 sto 39 7 14] fr st (.seq c24_19 k)) ∧
 (evK gS fi24 c24_24 fr st k = opsR gS fi24 [op1 23 (.binOp .add 3 (.tmp 10) (.const (.int .i64 1)) 3) 3,
 mv 10 23 3] fr st k) ∧
 evK gS fi24 c24_15 fr st k = evK gS fi24 c24_17 fr st (.blk 1 (.seq c24_24 k)) ∧
 evK gS fi24 c24_11 fr st k = condK gS fi24 (fr.op (.tmp 11)).bool? .skip (.exit 0) fr st (.seq c24_15 k) ∧
 evK gS fi24 c24_9 fr st k = opsR gS fi24 [bop 11 .lss 3 10 9 3 0] fr st (.seq c24_11 k) ∧
 evK gS fi24 c24_7 fr st k = evK gS fi24 c24_8 fr st (.blk 0 k) ∧
 (evK gS fi24 c24_5 fr st k = opsR gS fi24 [mv 8 0 32,
 len1 9 8 32 3,
 op1 10 (.move (.const (.int .i64 0))) 3] fr st (.seq c24_7 k)) ∧
 (evK gS fi24 c24_25 fr st k = opsR gS fi24 [mv 24 5 22,
 asn 4 24 22] fr st (.seq .ret k)) ∧
 evK gS fi24 c24_4 fr st k = evK gS fi24 c24_5 fr st (.seq c24_25 k) ∧
 evK gS fi24 c24_2 fr st k = opsR gS fi24 [op1 5 (.assign (.const (.slice none 0 0))) 22] fr st (.seq c24_4 k) ∧
 evK gS fi24 c24_0 fr st k = opsR gS fi24 [op1 4 (.assign (.const (.slice none 0 0))) 22] fr st (.seq c24_2 k) := ⟨evK_r 6 (by kernel_rfl), rfl, evK_rs 5 rfl (by kernel_rfl), evK_rs 4 rfl (by kernel_rfl), evK_r 7 (by kernel_rfl), rfl, rfl, evK_rs 3 rfl (by kernel_rfl), rfl, evK_rs 2 rfl (by kernel_rfl), evK_rs 8 rfl (by kernel_rfl), rfl, evK_rs 1 rfl (by kernel_rfl), evK_rs 0 rfl (by kernel_rfl)⟩
theorem m24 : mini fi24.body = c24_0 := by kernel_rfl
theorem n24_8 (fr : Fr) (st : St) (k : Kt) : nextK gS fi24 (.loop c24_9 k) .normal fr st = evK gS fi24 c24_8 fr st k := rfl
set_option maxHeartbeats 8000000 in
theorem L24 (g : List Grp) (hg : ∀ x ∈ g, POk x.filter ∧ x.clients.length < 1000) (hgl : g.length < 1000000) (c0 : Int) (st : St) : ∀ (m i : Nat) (out : List Int) (e0 e6 e7 : E) (T : List (Nat × E)) (X : List (Nat × List V)) (h0 : e0.Tame) (h6 : e6.Tame) (h7 : e7.Tame), i ≤ g.length → g.length - i = m → out.length ≤ i →
    evK gS fi24 c24_8 { ps := [(0, e0), (1, .val (.int .i64 c0)), (4, .own 0 []), (5, .own (kof 1 out) (intVs out)), (6, e6), (7, e7), (8, .val (.slice (encGrps g))), (9, .val (.int .i64 g.length)), (10, .val (.int .i64 (i : Nat)))], ts := T, lc := X } st (.blk 0 (.seq c24_25 .nil)) = some (.ret (.slice (intVs (mineG c0 i (g.drop i) out))) none, st) := by
  intro m
  have hm : fi24.marks = [1000000] := rfl
  have hl : fi24.locals = [7] := rfl
  have hr : fi24.results = [.tmp 4] := rfl
  have hz := fun xs st => frz_slice (xs := intVs xs) (flats_ints xs) st
  induction m with
  | zero =>
    intro i out e0 e6 e7 T X h0 h6 h7 hi hm2 ho
    obtain rfl : i = g.length := by omega
    rw [List.drop_length]
    refine evK_loop c24_9 _ _ _ _ rfl ?_
    rcases kof_or 1 out with ⟨hk, rfl⟩ | hk
    · have en : intVs [] = [] := rfl
      have hz0 := hz [] st
      rw [en] at hz0
      rw [hk, en]
      simp [h0, h6, h7, hz0, matchG, mineG, en, -Int.not_le, -Int.not_lt, -Nat.not_le, -Nat.not_lt, ty3, ty4, ty22, ty32, ty39, hm, hl, hr, E24, n24_8]
    · rw [hk]
      simp [h0, h6, h7, hz, matchG, mineG, -Int.not_le, -Int.not_lt, -Nat.not_le, -Nat.not_lt, ty3, ty4, ty22, ty32, ty39, hm, hl, hr, E24, n24_8]
  | succ m ih =>
    intro i out e0 e6 e7 T X h0 h6 h7 hi hm2 ho
    obtain ⟨x, hx⟩ : ∃ x, g[i]? = some x := ⟨g[i]'(by omega), List.getElem?_eq_getElem (by omega)⟩
    have hd := drop_get hx
    have hlt : (i : Int) < (g.length : Int) := by omega
    obtain ⟨hlt2, hxe⟩ := List.getElem?_eq_some_iff.1 hx
    have hw : IntKind.wrap .i64 ((i : Int) + 1) = ((i + 1 : Nat) : Int) := by rw [wrap64 (by omega) (by omega)]; omega
    have hxg := hg x (List.mem_of_getElem? hx)
    rw [hd]
    refine evK_loop c24_9 _ _ _ _ rfl ?_
    have kk : ∀ (fr : Fr) (st : St), callStep gS (EvF gS) 57 [.slice (intVs x.clients), .int .i64 c0] fr st = some (.ok (.val (.bool (hasI x.clients c0))) fr st) := fun fr st => k57 x.clients c0 (by have := hxg.2; omega) fr st
    cases hb : hasI x.clients c0 with
    | false =>
      have IH := fun e0 e6 e7 T X h0 h6 h7 => ih (i + 1) out e0 e6 e7 T X h0 h6 h7 (by omega) (by omega) (by omega)
      rw [show mineG c0 i (x :: g.drop (i + 1)) out = mineG c0 (i + 1) (g.drop (i + 1)) out from by simp [matchG, mineG, hb]]
      rw [hb] at kk
      rcases kof_or 1 out with ⟨hk, rfl⟩ | hk
      · have en : intVs [] = [] := rfl
        rw [hk, en] at IH ⊢
        simp [-Int.natCast_add, h0, h6, h7, hx, hxe, hlt, hlt2, hw, kk, -Int.not_le, -Int.not_lt, -Nat.not_le, -Nat.not_lt, ty3, ty4, ty22, ty32, ty39, hm, hl, hr, E24, n24_8]
        refine IH _ _ _ _ _ ?_ ?_ ?_
        all_goals simp [h0, h6, h7]
      · rw [hk] at IH ⊢
        simp [-Int.natCast_add, h0, h6, h7, hx, hxe, hlt, hlt2, hw, kk, -Int.not_le, -Int.not_lt, -Nat.not_le, -Nat.not_lt, ty3, ty4, ty22, ty32, ty39, hm, hl, hr, E24, n24_8]
        refine IH _ _ _ _ _ ?_ ?_ ?_
        all_goals simp [h0, h6, h7]
    | true =>
      have IH := fun e0 e6 e7 T X h0 h6 h7 => ih (i + 1) (out ++ [(i : Int)]) e0 e6 e7 T X h0 h6 h7 (by omega) (by omega) (by simp; omega)
      rw [show mineG c0 i (x :: g.drop (i + 1)) out = mineG c0 (i + 1) (g.drop (i + 1)) (out ++ [(i : Int)]) from by simp [matchG, mineG, hb]]
      rw [hb] at kk
      rw [kof_snoc] at IH
      have hs1 := sizes_ints out
      have hs2 := ints_snoc out (i : Int)
      have b1 : (out.length + 1) * 8 ≤ 140737488355328 := by omega
      have b2 : out.length + 1 ≤ 140737488355328 := by omega
      rcases kof_or 1 out with ⟨hk, rfl⟩ | hk
      · have en : intVs [] = [] := rfl
        have en1 : intVs ([] ++ [(i : Int)]) = [.int .i64 (i : Int)] := rfl
        rw [en1] at IH
        rw [hk, en]
        simp [-Int.natCast_add, h0, h6, h7, hx, hxe, hlt, hlt2, hw, kk, -Int.not_le, -Int.not_lt, -Nat.not_le, -Nat.not_lt, ty3, ty4, ty22, ty32, ty39, hm, hl, hr, E24, n24_8]
        refine IH _ _ _ _ _ ?_ ?_ ?_
        all_goals simp [h0, h6, h7]
      · rw [hk]
        simp [-Int.natCast_add, -List.append_assoc, h0, h6, h7, hx, hxe, hlt, hlt2, hw, kk, hs1, hs2, b1, b2, -Int.not_le, -Int.not_lt, -Nat.not_le, -Nat.not_lt, ty3, ty4, ty22, ty32, ty39, hm, hl, hr, E24, n24_8]
        refine IH _ _ _ _ _ ?_ ?_ ?_
        all_goals simp [h0, h6, h7]
set_option maxHeartbeats 8000000 in
theorem c24 (g : List Grp) (hg : ∀ x ∈ g, POk x.filter ∧ x.clients.length < 1000) (hgl : g.length < 1000000) (c0 : Int) (st : St) : EvF gS 24 [.slice (encGrps g), .int .i64 c0] st = some (.ret (.slice (intVs (gmine g c0))) none, st) := by
  refine EvF_start fi64_eq (fun x h => by cases h) m24 ?_
  rw [st24]
  have hm : fi24.marks = [1000000] := rfl
  have hl : fi24.locals = [7] := rfl
  have hr : fi24.results = [.tmp 4] := rfl
  have L0 := fun e0 e6 e7 T X h0 h6 h7 => L24 g hg hgl c0 st g.length 0 [] e0 e6 e7 T X h0 h6 h7 (Nat.zero_le _) rfl (Nat.le_refl _)
  simp only [show ((0 : Nat) : Int) = 0 from rfl, List.drop_zero, show kof 1 ([] : List Int) = 0 from rfl, show intVs [] = [] from rfl] at L0
  show _ = some (Out.ret (V.slice (intVs (mineG c0 0 g []))) none, st)
  simp [L0, -Int.not_le, -Int.not_lt, -Nat.not_le, -Nat.not_lt, ty3, ty4, ty22, ty32, ty39, hm, hl, hr, E24, n24_8]
theorem k24 (g : List Grp) (hg : ∀ x ∈ g, POk x.filter ∧ x.clients.length < 1000) (hgl : g.length < 1000000) (c0 : Int) (fr : Fr) (st : St) : callStep gS (EvF gS) 24 [.slice (encGrps g), .int .i64 c0] fr st = some (.ok (.val (.slice (intVs (gmine g c0)))) fr st) :=
  call_pure rfl fi64_eq rfl (fun st => c24 g hg hgl c0 st) (by simp [V.flat])
def fi20 : FI := { body := codeOf Try.f20, ntmps := 40, results := [.tmp 4], pers := [0, 1, 4, 5, 7, 9, 10, 11, 12, 28, 29, 30], locals := [], pure := true, marks := [1000000] }
theorem fi60_eq : gS.fn 20 = some fi20 := by kernel_rfl
theorem st20 (a0 a1 : V) : startFr fi20 [a0, a1] = { ps := [(0, .val a0), (1, .val a1), (4, .any), (5, .any), (7, .any), (9, .any), (10, .any), (11, .any), (12, .any), (28, .any), (29, .any), (30, .any)], ts := [], lc := [] } := rfl
def b20 : Code := mini (codeOf Try.f20)
def c20_22 : Code := .cond (.tmp 23) (.exit 1) .skip
def c20_20 : Code := .seq (codeN b20 9419) c20_22
def c20_39 : Code := codeN b20 1678539
def c20_37 : Code := .seq (codeN b20 1154251) c20_39
def c20_40 : Code := codeN b20 498891
def c20_35 : Code := .seq (.block 3 c20_37) c20_40
def c20_31 : Code := .seq (.cond (.tmp 31) .skip (.exit 2)) c20_35
def c20_29 : Code := .seq (codeN b20 72907) c20_31
def c20_28 : Code := .loop c20_29
def c20_27 : Code := .block 2 c20_28
def c20_25 : Code := .seq (codeN b20 11467) c20_27
def c20_19 : Code := .seq c20_20 c20_25
def c20_17 : Code := .seq (codeN b20 2251) c20_19
def c20_41 : Code := codeN b20 971
theorem e20_41 : evK gS fi20 c20_41 fr st k = opsR gS fi20 [op1 38 (.binOp .add 3 (.tmp 12) (.const (.int .i64 1)) 3) 3,
 mv 12 38 3] fr st k := evK_r 11 (by kernel_rfl)
def c20_15 : Code := .seq (.block 1 c20_17) c20_41
def c20_11 : Code := .seq (.cond (.tmp 13) .skip (.exit 0)) c20_15
def c20_9 : Code := .seq (codeN b20 139) c20_11
def c20_8 : Code := .loop c20_9
def c20_7 : Code := .block 0 c20_8
def c20_5 : Code := .seq (codeN b20 19) c20_7
def c20_42 : Code := .seq (codeN b20 23) .ret
def c20_4 : Code := .seq c20_5 c20_42
def c20_2 : Code := .seq (codeN b20 5) c20_4
def c20_0 : Code := .seq (codeN b20 2) c20_2
theorem E20 : evK gS fi20 c20_22 fr st k = condK gS fi20 (fr.op (.tmp 23)).bool? (.exit 1) .skip fr st k ∧
 (evK gS fi20 c20_20 fr st k = opsR gS fi20 [mv 16 7 3,
 op1 17 (.binOp .lss 3 (.tmp 16) (.const (.int .i64 0)) 3) 4,
 mv 18 17 4,
 mk (some 19) (.move (.tmp 7)) 3 (some (2, false)),
 mk (some 20) (.move (.tmp 0)) 32 (some (2, false)),
 mk (some 21) (.call { callee := (.builtin .len), args := #[(.tmp 20)], argTypes := #[32] }) 3 (some (2, false)),
 mk (some 22) (.binOp .geq 3 (.tmp 19) (.tmp 21) 3) 4 (some (2, false)),
 op1 23 (.pick (.tmp 18) (.const (.bool true)) (.tmp 22)) 4] fr st (.seq c20_22 k)) ∧
 (evK gS fi20 c20_39 fr st k = opsR gS fi20 [mv 34 5 22,
 mv 35 9 3,
 cal 36 51 [(.tmp 34), (.tmp 35)] [22, 3] 22,
 asn 5 36 22] fr st k) ∧
 (evK gS fi20 c20_37 fr st k = opsR gS fi20 [ixa 32 22 28 30 0,
 ld 33 3 32 3,
 asn 9 33 3] fr st (.seq c20_39 k)) ∧
 (evK gS fi20 c20_40 fr st k = opsR gS fi20 [op1 37 (.binOp .add 3 (.tmp 30) (.const (.int .i64 1)) 3) 3,
 mv 30 37 3] fr st k) ∧
 evK gS fi20 c20_35 fr st k = evK gS fi20 c20_37 fr st (.blk 3 (.seq c20_40 k)) ∧
 evK gS fi20 c20_31 fr st k = condK gS fi20 (fr.op (.tmp 31)).bool? .skip (.exit 2) fr st (.seq c20_35 k) ∧
 evK gS fi20 c20_29 fr st k = opsR gS fi20 [bop 31 .lss 3 30 29 3 0] fr st (.seq c20_31 k) ∧
 evK gS fi20 c20_27 fr st k = evK gS fi20 c20_28 fr st (.blk 2 k) ∧
 (evK gS fi20 c20_25 fr st k = opsR gS fi20 [mv 24 0 32,
 mv 25 7 3,
 ixa 26 32 24 25 0,
 op1 27 (.fieldAddr 39 (.tmp 26) 1) 0,
 ld 28 22 27 22,
 len1 29 28 22 3,
 op1 30 (.move (.const (.int .i64 0))) 3] fr st (.seq c20_27 k)) ∧
 evK gS fi20 c20_19 fr st k = evK gS fi20 c20_20 fr st (.seq c20_25 k) ∧
 (evK gS fi20 c20_17 fr st k = opsR gS fi20 [ixa 14 22 10 12 0,
 ld 15 3 14 3,
 asn 7 15 3] fr st (.seq c20_19 k)) ∧
 evK gS fi20 c20_15 fr st k = evK gS fi20 c20_17 fr st (.blk 1 (.seq c20_41 k)) ∧
 evK gS fi20 c20_11 fr st k = condK gS fi20 (fr.op (.tmp 13)).bool? .skip (.exit 0) fr st (.seq c20_15 k) ∧
 evK gS fi20 c20_9 fr st k = opsR gS fi20 [bop 13 .lss 3 12 11 3 0] fr st (.seq c20_11 k) ∧
 evK gS fi20 c20_7 fr st k = evK gS fi20 c20_8 fr st (.blk 0 k) ∧
 (evK gS fi20 c20_5 fr st k = opsR gS fi20 [mv 10 1 22,
 len1 11 10 22 3,
 op1 12 (.move (.const (.int .i64 0))) 3] fr st (.seq c20_7 k)) ∧
 (evK gS fi20 c20_42 fr st k = opsR gS fi20 [mv 39 5 22,
 asn 4 39 22] fr st (.seq .ret k)) ∧
 evK gS fi20 c20_4 fr st k = evK gS fi20 c20_5 fr st (.seq c20_42 k) ∧
 evK gS fi20 c20_2 fr st k = opsR gS fi20 [op1 5 (.assign (.const (.slice none 0 0))) 22] fr st (.seq c20_4 k) ∧
 evK gS fi20 c20_0 fr st k = opsR gS fi20 [op1 4 (.assign (.const (.slice none 0 0))) 22] fr st (.seq c20_2 k) := ⟨rfl, evK_rs 5 rfl (by kernel_rfl), evK_r 9 (by kernel_rfl), evK_rs 8 rfl (by kernel_rfl), evK_r 10 (by kernel_rfl), rfl, rfl, evK_rs 7 rfl (by kernel_rfl), rfl, evK_rs 6 rfl (by kernel_rfl), rfl, evK_rs 4 rfl (by kernel_rfl), rfl, rfl, evK_rs 3 rfl (by kernel_rfl), rfl, evK_rs 2 rfl (by kernel_rfl), evK_rs 12 rfl (by kernel_rfl), rfl, evK_rs 1 rfl (by kernel_rfl), evK_rs 0 rfl (by kernel_rfl)⟩
theorem m20 : mini fi20.body = c20_0 := by kernel_rfl
theorem n20_28 (fr : Fr) (st : St) (k : Kt) : nextK gS fi20 (.loop c20_29 k) .normal fr st = evK gS fi20 c20_28 fr st k := rfl
theorem n20_8 (fr : Fr) (st : St) (k : Kt) : nextK gS fi20 (.loop c20_9 k) .normal fr st = evK gS fi20 c20_8 fr st k := rfl
/-- A row of numbers as it is handed on. -/
def OutE (e : E) (l : List Int) : Prop := (e = .own 0 [] ∧ l = []) ∨ e = .val (.slice (intVs l))
set_option maxHeartbeats 8000000 in
theorem L20_28 (g : List Grp) (ms cs : List Int) (io : Nat) (e1 e7 : E) (h1 : e1.Tame) (h7 : e7.Tame) (st : St) (X : List (Nat × List V)) (fin : List Int) (R : Out × St) (hcs : cs.length < 1000)
    (H : ∀ e5 e9 T, OutE e5 fin → e9.Tame → evK gS fi20 c20_41 { ps := [(0, .val (.slice (encGrps g))), (1, e1), (4, .own 0 []), (5, e5), (7, e7), (9, e9), (10, .val (.slice (intVs ms))), (11, .val (.int .i64 ms.length)), (12, .val (.int .i64 (io : Nat))), (28, .val (.slice (intVs cs))), (29, .val (.int .i64 cs.length)), (30, .val (.int .i64 cs.length))], ts := T, lc := X } st (.loop c20_9 (.blk 0 (.seq c20_42 .nil))) = some R) :
    ∀ (m i : Nat) (acc : List Int) (e5 e28 e9 : E) (h5 : OutE e5 acc) (h28 : e28.calm = .val (.slice (intVs cs))) (h9 : e9.Tame) (T : List (Nat × E)), i ≤ cs.length → cs.length - i = m → acc.length + (cs.length - i) < 1000000 → fin = (cs.drop i).foldl layI acc →
    evK gS fi20 c20_28 { ps := [(0, .val (.slice (encGrps g))), (1, e1), (4, .own 0 []), (5, e5), (7, e7), (9, e9), (10, .val (.slice (intVs ms))), (11, .val (.int .i64 ms.length)), (12, .val (.int .i64 (io : Nat))), (28, e28), (29, .val (.int .i64 cs.length)), (30, .val (.int .i64 (i : Nat)))], ts := T, lc := X } st (.blk 2 (.blk 1 (.seq c20_41 (.loop c20_9 (.blk 0 (.seq c20_42 .nil)))))) = some R := by
  intro m
  have hm : fi20.marks = [1000000] := rfl
  have hl : fi20.locals = [] := rfl
  have hr : fi20.results = [.tmp 4] := rfl
  induction m with
  | zero =>
    intro i acc e5 e28 e9 h5 h28 h9 T hi hm2 hb hf
    obtain rfl : i = cs.length := by omega
    rw [List.drop_length, List.foldl_nil] at hf
    subst hf
    refine evK_loop c20_29 _ _ _ _ rfl ?_
    rcases h5 with ⟨rfl, rfl⟩ | rfl
    · simp [h1, h7, h9, h28, -Int.not_le, -Int.not_lt, -Nat.not_le, -Nat.not_lt, ty3, ty4, ty22, ty32, ty39, hm, hl, hr, E20, n20_28, n20_8]
      exact H _ _ _ (.inl ⟨rfl, rfl⟩) h9
    · simp [h1, h7, h9, h28, -Int.not_le, -Int.not_lt, -Nat.not_le, -Nat.not_lt, ty3, ty4, ty22, ty32, ty39, hm, hl, hr, E20, n20_28, n20_8]
      exact H _ _ _ (.inr rfl) h9
  | succ m ih =>
    intro i acc e5 e28 e9 h5 h28 h9 T hi hm2 hb hf
    obtain ⟨x, hx⟩ : ∃ x, cs[i]? = some x := ⟨cs[i]'(by omega), List.getElem?_eq_getElem (by omega)⟩
    have hd := drop_get hx
    have hlt : (i : Int) < (cs.length : Int) := by omega
    obtain ⟨hlt2, hxe⟩ := List.getElem?_eq_some_iff.1 hx
    have hw : IntKind.wrap .i64 ((i : Int) + 1) = ((i + 1 : Nat) : Int) := by rw [wrap64 (by omega) (by omega)]; omega
    rw [hd, List.foldl_cons] at hf
    have hll := layI_len acc x
    have IH := fun e5 e9 h5 h9 T => ih (i + 1) (layI acc x) e5 (.val (.slice (intVs cs))) e9 h5 rfl h9 T (by omega) (by omega) (by omega) hf
    have kk := fun fr st => k51 acc (by omega) x fr st
    refine evK_loop c20_29 _ _ _ _ rfl ?_
    rcases h5 with ⟨rfl, rfl⟩ | rfl
    · rw [show intVs [] = [] from rfl] at kk
      simp [-Int.natCast_add, h1, h7, h9, h28, hx, hxe, hlt, hlt2, hw, kk, -Int.not_le, -Int.not_lt, -Nat.not_le, -Nat.not_lt, ty3, ty4, ty22, ty32, ty39, hm, hl, hr, E20, n20_28, n20_8]
      exact IH _ _ (.inr rfl) (tame_val _) _
    · simp [-Int.natCast_add, h1, h7, h9, h28, hx, hxe, hlt, hlt2, hw, kk, -Int.not_le, -Int.not_lt, -Nat.not_le, -Nat.not_lt, ty3, ty4, ty22, ty32, ty39, hm, hl, hr, E20, n20_28, n20_8]
      exact IH _ _ (.inr rfl) (tame_val _) _
set_option maxHeartbeats 8000000 in
theorem L20 (g : List Grp) (hg : ∀ x ∈ g, x.clients.length < 1000) (hgl : g.length < 1000000) (ms : List Int) (hms : ms.length ≤ 500) (e1 : E) (h1 : e1.Tame) (st : St) (X : List (Nat × List V)) :
    ∀ (m i : Nat) (acc : List Int) (e5 e7 e9 e28 e29 e30 : E) (h5 : OutE e5 acc) (h7 : e7.Tame) (h9 : e9.Tame) (h28 : e28.Tame) (h29 : e29.Tame) (h30 : e30.Tame) (T : List (Nat × E)), i ≤ ms.length → ms.length - i = m → acc.length ≤ 1000 * i →
    evK gS fi20 c20_8 { ps := [(0, .val (.slice (encGrps g))), (1, e1), (4, .own 0 []), (5, e5), (7, e7), (9, e9), (10, .val (.slice (intVs ms))), (11, .val (.int .i64 ms.length)), (12, .val (.int .i64 (i : Nat))), (28, e28), (29, e29), (30, e30)], ts := T, lc := X } st (.blk 0 (.seq c20_42 .nil)) = some (.ret (.slice (intVs ((ms.drop i).foldl (rdStep g) acc))) none, st) := by
  intro m
  have hm : fi20.marks = [1000000] := rfl
  have hl : fi20.locals = [] := rfl
  have hr : fi20.results = [.tmp 4] := rfl
  induction m with
  | zero =>
    intro i acc e5 e7 e9 e28 e29 e30 h5 h7 h9 h28 h29 h30 T hi hm2 hb
    obtain rfl : i = ms.length := by omega
    rw [List.drop_length, List.foldl_nil]
    have hz := frz_slice (xs := intVs acc) (flats_ints acc) st
    refine evK_loop c20_9 _ _ _ _ rfl ?_
    rcases h5 with ⟨rfl, rfl⟩ | rfl
    · rw [show intVs [] = [] from rfl] at hz ⊢
      simp [h1, h7, h9, h28, h29, h30, hz, -Int.not_le, -Int.not_lt, -Nat.not_le, -Nat.not_lt, ty3, ty4, ty22, ty32, ty39, hm, hl, hr, E20, e20_41, n20_28, n20_8]
    · simp [h1, h7, h9, h28, h29, h30, hz, -Int.not_le, -Int.not_lt, -Nat.not_le, -Nat.not_lt, ty3, ty4, ty22, ty32, ty39, hm, hl, hr, E20, e20_41, n20_28, n20_8]
  | succ m ih =>
    intro i acc e5 e7 e9 e28 e29 e30 h5 h7 h9 h28 h29 h30 T hi hm2 hb
    obtain ⟨x, hx⟩ : ∃ x, ms[i]? = some x := ⟨ms[i]'(by omega), List.getElem?_eq_getElem (by omega)⟩
    have hd := drop_get hx
    have hlt : (i : Int) < (ms.length : Int) := by omega
    obtain ⟨hlt2, hxe⟩ := List.getElem?_eq_some_iff.1 hx
    have hw : IntKind.wrap .i64 ((i : Int) + 1) = ((i + 1 : Nat) : Int) := by rw [wrap64 (by omega) (by omega)]; omega
    rw [hd, List.foldl_cons]
    by_cases hx0 : x < 0
    · have hr : rdStep g acc x = acc := by unfold rdStep; rw [if_pos (.inl hx0)]
      rw [hr]
      have IH := fun e5 e7 e9 e28 e29 e30 h5 h7 h9 h28 h29 h30 T => ih (i + 1) acc e5 e7 e9 e28 e29 e30 h5 h7 h9 h28 h29 h30 T (by omega) (by omega) (by omega)
      refine evK_loop c20_9 _ _ _ _ rfl ?_
      rcases h5 with ⟨rfl, rfl⟩ | rfl
      · simp [-Int.natCast_add, h1, h7, h9, h28, h29, h30, hx, hxe, hlt, hlt2, hw, hx0, -Int.not_le, -Int.not_lt, -Nat.not_le, -Nat.not_lt, ty3, ty4, ty22, ty32, ty39, hm, hl, hr, E20, e20_41, n20_28, n20_8]
        exact IH _ _ _ _ _ _ (.inl ⟨rfl, rfl⟩) (tame_val _) h9 h28 h29 h30 _
      · simp [-Int.natCast_add, h1, h7, h9, h28, h29, h30, hx, hxe, hlt, hlt2, hw, hx0, -Int.not_le, -Int.not_lt, -Nat.not_le, -Nat.not_lt, ty3, ty4, ty22, ty32, ty39, hm, hl, hr, E20, e20_41, n20_28, n20_8]
        exact IH _ _ _ _ _ _ (.inr rfl) (tame_val _) h9 h28 h29 h30 _
    · obtain ⟨k, rfl⟩ : ∃ k : Nat, x = (k : Int) := ⟨x.toNat, by omega⟩
      by_cases hk : k < g.length
      · obtain ⟨y, hy⟩ : ∃ y, g[k]? = some y := ⟨g[k]'hk, List.getElem?_eq_getElem hk⟩
        have hye : g[k]'hk = y := (List.getElem?_eq_some_iff.1 hy).2
        have hyc := hg y (List.mem_of_getElem? hy)
        have hr : rdStep g acc k = y.clients.foldl layI acc := by
          unfold rdStep; rw [if_neg (by omega), Int.toNat_natCast, hy]; rfl
        rw [hr]
        have hfl : ∀ (cs acc : List Int), (cs.foldl layI acc).length ≤ acc.length + cs.length := by
          intro cs
          induction cs with
          | nil => intro acc; simp
          | cons c r ihc =>
            intro acc
            have h1 := ihc (layI acc c)
            have h2 := layI_len acc c
            simp only [List.foldl_cons, List.length_cons]; omega
        have hfl2 := hfl y.clients acc
        have IH := fun e5 e7 e9 e28 e29 e30 h5 h7 h9 h28 h29 h30 T => ih (i + 1) (y.clients.foldl layI acc) e5 e7 e9 e28 e29 e30 h5 h7 h9 h28 h29 h30 T (by omega) (by omega) (by omega)
        generalize hR : (Out.ret (V.slice (intVs ((ms.drop (i + 1)).foldl (rdStep g) (y.clients.foldl layI acc)))) none, st) = R at IH ⊢
        have H41 : ∀ e5 e9 T, OutE e5 (y.clients.foldl layI acc) → e9.Tame → evK gS fi20 c20_41 { ps := [(0, .val (.slice (encGrps g))), (1, e1), (4, .own 0 []), (5, e5), (7, .val (.int .i64 k)), (9, e9), (10, .val (.slice (intVs ms))), (11, .val (.int .i64 ms.length)), (12, .val (.int .i64 (i : Nat))), (28, .val (.slice (intVs y.clients))), (29, .val (.int .i64 y.clients.length)), (30, .val (.int .i64 y.clients.length))], ts := T, lc := X } st (.loop c20_9 (.blk 0 (.seq c20_42 .nil))) = some R := by
          intro e5 e9 T h5 h9
          rcases h5 with ⟨rfl, hq⟩ | rfl
          · simp [-Int.natCast_add, h1, h9, hw, -Int.not_le, -Int.not_lt, -Nat.not_le, -Nat.not_lt, ty3, ty4, ty22, ty32, ty39, hm, hl, hr, E20, e20_41, n20_28, n20_8]
            exact IH _ _ _ _ _ _ (.inl ⟨rfl, hq⟩) (tame_val _) h9 (tame_val _) (tame_val _) (tame_val _) _
          · simp [-Int.natCast_add, h1, h9, hw, -Int.not_le, -Int.not_lt, -Nat.not_le, -Nat.not_lt, ty3, ty4, ty22, ty32, ty39, hm, hl, hr, E20, e20_41, n20_28, n20_8]
            exact IH _ _ _ _ _ _ (.inr rfl) (tame_val _) h9 (tame_val _) (tame_val _) (tame_val _) _
        have LL := fun e5 e28 e9 h5 h28 h9 T => L20_28 g ms y.clients i e1 (.val (.int .i64 k)) h1 rfl st X (y.clients.foldl layI acc) R hyc H41 y.clients.length 0 acc e5 e28 e9 h5 h28 h9 T (Nat.zero_le _) rfl (by omega) rfl
        rw [show ((0 : Nat) : Int) = 0 from rfl] at LL
        have hk1 : ¬ ((g.length : Int) ≤ (k : Int)) := by omega
        have hk2 : ¬ (g.length ≤ k) := by omega
        have hk3 : (k : Int) < (g.length : Int) := by omega
        have hk0 : ¬ ((k : Int) < 0) := by omega
        refine evK_loop c20_9 _ _ _ _ rfl ?_
        rcases h5 with ⟨rfl, rfl⟩ | rfl
        · simp [-Int.natCast_add, h1, h7, h9, h28, h29, h30, hx, hxe, hlt, hlt2, hk, hk0, hk1, hk2, hk3, hy, hye, -Int.not_le, -Int.not_lt, -Nat.not_le, -Nat.not_lt, ty3, ty4, ty22, ty32, ty39, hm, hl, hr, E20, e20_41, n20_28, n20_8]
          exact LL _ _ _ (.inl ⟨rfl, rfl⟩) rfl h9 _
        · simp [-Int.natCast_add, h1, h7, h9, h28, h29, h30, hx, hxe, hlt, hlt2, hk, hk0, hk1, hk2, hk3, hy, hye, -Int.not_le, -Int.not_lt, -Nat.not_le, -Nat.not_lt, ty3, ty4, ty22, ty32, ty39, hm, hl, hr, E20, e20_41, n20_28, n20_8]
          exact LL _ _ _ (.inr rfl) rfl h9 _
      · have hr : rdStep g acc k = acc := by unfold rdStep; rw [if_pos (.inr (by omega))]
        rw [hr]
        have IH := fun e5 e7 e9 e28 e29 e30 h5 h7 h9 h28 h29 h30 T => ih (i + 1) acc e5 e7 e9 e28 e29 e30 h5 h7 h9 h28 h29 h30 T (by omega) (by omega) (by omega)
        have hk1 : (g.length : Int) ≤ (k : Int) := by omega
        have hk2 : g.length ≤ k := by omega
        have hk0 : ¬ ((k : Int) < 0) := by omega
        refine evK_loop c20_9 _ _ _ _ rfl ?_
        rcases h5 with ⟨rfl, rfl⟩ | rfl
        · simp [-Int.natCast_add, h1, h7, h9, h28, h29, h30, hx, hxe, hlt, hlt2, hw, hk0, hk1, hk2, -Int.not_le, -Int.not_lt, -Nat.not_le, -Nat.not_lt, ty3, ty4, ty22, ty32, ty39, hm, hl, hr, E20, e20_41, n20_28, n20_8]
          exact IH _ _ _ _ _ _ (.inl ⟨rfl, rfl⟩) (tame_val _) h9 h28 h29 h30 _
        · simp [-Int.natCast_add, h1, h7, h9, h28, h29, h30, hx, hxe, hlt, hlt2, hw, hk0, hk1, hk2, -Int.not_le, -Int.not_lt, -Nat.not_le, -Nat.not_lt, ty3, ty4, ty22, ty32, ty39, hm, hl, hr, E20, e20_41, n20_28, n20_8]
          exact IH _ _ _ _ _ _ (.inr rfl) (tame_val _) h9 h28 h29 h30 _
set_option maxHeartbeats 8000000 in
theorem c20 (g : List Grp) (hg : ∀ x ∈ g, x.clients.length < 1000) (hgl : g.length < 1000000) (ms : List Int) (hms : ms.length ≤ 500) (st : St) : EvF gS 20 [.slice (encGrps g), .slice (intVs ms)] st = some (.ret (.slice (intVs (greaders g ms))) none, st) := by
  refine EvF_start fi60_eq (fun x h => by cases h) m20 ?_
  rw [st20]
  have hm : fi20.marks = [1000000] := rfl
  have hl : fi20.locals = [] := rfl
  have hr : fi20.results = [.tmp 4] := rfl
  have L0 := fun e1 e7 e9 e28 e29 e30 T X h1 h7 h9 h28 h29 h30 => L20 g hg hgl ms hms e1 h1 st X ms.length 0 [] (.own 0 []) e7 e9 e28 e29 e30 (.inl ⟨rfl, rfl⟩) h7 h9 h28 h29 h30 T (Nat.zero_le _) rfl (Nat.zero_le _)
  simp only [show ((0 : Nat) : Int) = 0 from rfl, List.drop_zero] at L0
  show _ = some (Out.ret (V.slice (intVs (ms.foldl (rdStep g) []))) none, st)
  simp [L0, -Int.not_le, -Int.not_lt, -Nat.not_le, -Nat.not_lt, ty3, ty4, ty22, ty32, ty39, hm, hl, hr, E20, e20_41, n20_28, n20_8]
theorem k20 (g : List Grp) (hg : ∀ x ∈ g, x.clients.length < 1000) (hgl : g.length < 1000000) (ms : List Int) (hms : ms.length ≤ 500) (fr : Fr) (st : St) : callStep gS (EvF gS) 20 [.slice (encGrps g), .slice (intVs ms)] fr st = some (.ok (.val (.slice (intVs (greaders g ms)))) fr st) :=
  call_pure rfl fi60_eq rfl (fun st => c20 g hg hgl ms hms st) (by simp [V.flat])
theorem k50 (f : List Pred) (h_f : PSm f) (fr : Fr) (st : St) : callStep gS (EvF gS) 50 [.slice (encPreds f)] fr st = some (.ok (.val (.slice (encPreds f))) fr st) :=
  call_pure' rfl fi45_eq rfl (by simp [flats, V.flat]) (c50 f h_f ⟨[], 0⟩ (Nat.le_refl _)) (by simp [V.flat])
/-- A row of numbers in a variable. -/
def CLo (v : V) (l : List Int) : Prop := (v = .osl 0 [] ∧ l = []) ∨ v = .slice (intVs l)
def fi12 : FI := { body := codeOf Try.f12, ntmps := 67, results := [.tmp 2], pers := [0, 2, 3, 4, 5, 6, 8, 9, 11, 12, 13, 14, 21, 22, 23, 43, 44, 45], locals := [5, 8, 9, 11], pure := false, marks := [1000000] }
theorem fi54_eq : gS.fn 12 = some fi12 := by kernel_rfl
theorem st12 (a0 : V) : startFr fi12 [a0] = { ps := [(0, .val a0), (2, .any), (3, .any), (4, .any), (5, .any), (6, .any), (8, .any), (9, .any), (11, .any), (12, .any), (13, .any), (14, .any), (21, .any), (22, .any), (23, .any), (43, .any), (44, .any), (45, .any)], ts := [], lc := [] } := rfl
def b12 : Code := mini (codeOf Try.f12)
def c12_36 : Code := codeN b12 3353803
def c12_34 : Code := .seq (codeN b12 2305227) c12_36
def c12_37 : Code := codeN b12 994507
def c12_32 : Code := .seq (.block 3 c12_34) c12_37
def c12_28 : Code := .seq (.cond (.tmp 24) .skip (.exit 2)) c12_32
def c12_26 : Code := .seq (codeN b12 142539) c12_28
def c12_25 : Code := .loop c12_26
def c12_24 : Code := .block 2 c12_25
def c12_22 : Code := .seq (codeN b12 19659) c12_24
def c12_41 : Code := .cond (.tmp 38) (.exit 1) .skip
def c12_39 : Code := .seq (codeN b12 40139) c12_41
def c12_64 : Code := codeN b12 93945035
def c12_63 : Code := .cond (.tmp 53) c12_64 .skip
def c12_61 : Code := .seq (codeN b12 43613387) c12_63
def c12_59 : Code := .seq (codeN b12 18447563) c12_61
def c12_66 : Code := codeN b12 7961803
def c12_57 : Code := .seq (.block 5 c12_59) c12_66
def c12_53 : Code := .seq (.cond (.tmp 46) .skip (.exit 4)) c12_57
def c12_51 : Code := .seq (codeN b12 1146059) c12_53
def c12_50 : Code := .loop c12_51
def c12_49 : Code := .block 4 c12_50
def c12_47 : Code := .seq (codeN b12 163019) c12_49
def c12_67 : Code := codeN b12 130251
theorem e12_67 : evK gS fi12 c12_67 fr st k = opsR gS fi12 [mv 61 3 32,
 ld 62 39 9 39,
 op1 63 (.buildSlice 32 1 #[(0, (.tmp 62))]) 32,
 op1 64 (.call { callee := (.builtin .append), args := #[(.tmp 61), (.tmp 63)], argTypes := #[32, 32] }) 32,
 asn 3 64 32] fr st k := evK_r 19 (by kernel_rfl)
def c12_46 : Code := .seq c12_47 c12_67
def c12_44 : Code := .seq (codeN b12 48331) c12_46
def c12_38 : Code := .seq c12_39 c12_44
theorem e12_38 : evK gS fi12 c12_38 fr st k = evK gS fi12 c12_39 fr st (.seq c12_44 k) := rfl
def c12_21 : Code := .seq c12_22 c12_38
def c12_19 : Code := .seq (codeN b12 5323) c12_21
def c12_17 : Code := .seq (codeN b12 2251) c12_19
def c12_68 : Code := codeN b12 971
def c12_15 : Code := .seq (.block 1 c12_17) c12_68
def c12_11 : Code := .seq (.cond (.tmp 15) .skip (.exit 0)) c12_15
def c12_9 : Code := .seq (codeN b12 139) c12_11
def c12_8 : Code := .loop c12_9
def c12_7 : Code := .block 0 c12_8
def c12_5 : Code := .seq (codeN b12 19) c12_7
def c12_69 : Code := .seq (codeN b12 23) .ret
def c12_4 : Code := .seq c12_5 c12_69
def c12_2 : Code := .seq (codeN b12 5) c12_4
def c12_0 : Code := .seq (codeN b12 2) c12_2
theorem E12 : (evK gS fi12 c12_36 fr st k = opsR gS fi12 [mv 27 6 4,
 mv 28 27 4,
 mk (some 29) (.fieldAddr 31 (.tmp 5) 3) 0 (some (1, true)),
 mk (some 30) (.load 29 (.tmp 29)) 29 (some (1, true)),
 mk (some 31) (.fieldAddr 31 (.tmp 8) 3) 0 (some (1, true)),
 mk (some 32) (.load 29 (.tmp 31)) 29 (some (1, true)),
 mk (some 33) (.call { callee := (.value (.func 49)), args := #[(.tmp 30), (.tmp 32)], argTypes := #[29, 29] }) 4 (some (1, true)),
 mk (some 34) (.unOp .not 4 (.tmp 33)) 4 (some (1, true)),
 op1 35 (.pick (.tmp 28) (.tmp 34) (.const (.bool false))) 4,
 asn 6 35 4] fr st k) ∧
 (evK gS fi12 c12_34 fr st k = opsR gS fi12 [ixa 25 26 21 23 0,
 ld 26 31 25 31,
 op1 8 (.alloc 31) 0,
 sto 31 8 26] fr st (.seq c12_36 k)) ∧
 (evK gS fi12 c12_37 fr st k = opsR gS fi12 [op1 36 (.binOp .add 3 (.tmp 23) (.const (.int .i64 1)) 3) 3,
 mv 23 36 3] fr st k) ∧
 evK gS fi12 c12_32 fr st k = evK gS fi12 c12_34 fr st (.blk 3 (.seq c12_37 k)) ∧
 evK gS fi12 c12_28 fr st k = condK gS fi12 (fr.op (.tmp 24)).bool? .skip (.exit 2) fr st (.seq c12_32 k) ∧
 evK gS fi12 c12_26 fr st k = opsR gS fi12 [bop 24 .lss 3 23 22 3 0] fr st (.seq c12_28 k) ∧
 evK gS fi12 c12_24 fr st k = evK gS fi12 c12_25 fr st (.blk 2 k) ∧
 (evK gS fi12 c12_22 fr st k = opsR gS fi12 [mv 19 0 26,
 mv 20 4 3,
 op1 21 (.slice 26 (.tmp 19) none (some (.tmp 20)) none) 26,
 len1 22 21 26 3,
 op1 23 (.move (.const (.int .i64 0))) 3] fr st (.seq c12_24 k)) ∧
 evK gS fi12 c12_41 fr st k = condK gS fi12 (fr.op (.tmp 38)).bool? (.exit 1) .skip fr st k ∧
 (evK gS fi12 c12_39 fr st k = opsR gS fi12 [mv 37 6 4,
 op1 38 (.unOp .not 4 (.tmp 37)) 4] fr st (.seq c12_41 k)) ∧
 (evK gS fi12 c12_64 fr st k = opsR gS fi12 [op1 54 (.fieldAddr 39 (.tmp 9) 1) 0,
 ld 55 22 54 22,
 op1 56 (.fieldAddr 31 (.tmp 11) 0) 0,
 ld 57 3 56 3,
 cal 58 51 [(.tmp 55), (.tmp 57)] [22, 3] 22,
 op1 59 (.fieldAddr 39 (.tmp 9) 1) 0,
 sto 22 59 58] fr st k) ∧
 evK gS fi12 c12_63 fr st k = condK gS fi12 (fr.op (.tmp 53)).bool? c12_64 .skip fr st k ∧
 (evK gS fi12 c12_61 fr st k = opsR gS fi12 [op1 49 (.fieldAddr 31 (.tmp 5) 3) 0,
 ld 50 29 49 29,
 op1 51 (.fieldAddr 31 (.tmp 11) 3) 0,
 ld 52 29 51 29,
 cal 53 49 [(.tmp 50), (.tmp 52)] [29, 29] 4] fr st (.seq c12_63 k)) ∧
 (evK gS fi12 c12_59 fr st k = opsR gS fi12 [ixa 47 26 43 45 0,
 ld 48 31 47 31,
 op1 11 (.alloc 31) 0,
 sto 31 11 48] fr st (.seq c12_61 k)) ∧
 (evK gS fi12 c12_66 fr st k = opsR gS fi12 [op1 60 (.binOp .add 3 (.tmp 45) (.const (.int .i64 1)) 3) 3,
 mv 45 60 3] fr st k) ∧
 evK gS fi12 c12_57 fr st k = evK gS fi12 c12_59 fr st (.blk 5 (.seq c12_66 k)) ∧
 evK gS fi12 c12_53 fr st k = condK gS fi12 (fr.op (.tmp 46)).bool? .skip (.exit 4) fr st (.seq c12_57 k) ∧
 evK gS fi12 c12_51 fr st k = opsR gS fi12 [bop 46 .lss 3 45 44 3 0] fr st (.seq c12_53 k) ∧
 evK gS fi12 c12_49 fr st k = evK gS fi12 c12_50 fr st (.blk 4 k) ∧
 (evK gS fi12 c12_47 fr st k = opsR gS fi12 [mv 43 0 26,
 len1 44 43 26 3,
 op1 45 (.move (.const (.int .i64 0))) 3] fr st (.seq c12_49 k)) ∧
 evK gS fi12 c12_46 fr st k = evK gS fi12 c12_47 fr st (.seq c12_67 k) ∧
 (evK gS fi12 c12_44 fr st k = opsR gS fi12 [op1 39 (.fieldAddr 31 (.tmp 5) 3) 0,
 ld 40 29 39 29,
 cal 41 50 [(.tmp 40)] [29] 29,
 op1 42 (.build 39 #[(0, (.tmp 41))]) 39,
 op1 9 (.alloc 39) 0,
 sto 39 9 42] fr st (.seq c12_46 k)) ∧
 evK gS fi12 c12_21 fr st k = evK gS fi12 c12_22 fr st (.seq c12_38 k) ∧
 evK gS fi12 c12_19 fr st k = opsR gS fi12 [op1 6 (.assign (.const (.bool true))) 4] fr st (.seq c12_21 k) ∧
 (evK gS fi12 c12_17 fr st k = opsR gS fi12 [mv 16 14 3,
 ixa 17 26 12 14 0,
 ld 18 31 17 31,
 op1 5 (.alloc 31) 0,
 asn 4 16 3,
 sto 31 5 18] fr st (.seq c12_19 k)) ∧
 (evK gS fi12 c12_68 fr st k = opsR gS fi12 [op1 65 (.binOp .add 3 (.tmp 14) (.const (.int .i64 1)) 3) 3,
 mv 14 65 3] fr st k) ∧
 evK gS fi12 c12_15 fr st k = evK gS fi12 c12_17 fr st (.blk 1 (.seq c12_68 k)) ∧
 evK gS fi12 c12_11 fr st k = condK gS fi12 (fr.op (.tmp 15)).bool? .skip (.exit 0) fr st (.seq c12_15 k) ∧
 evK gS fi12 c12_9 fr st k = opsR gS fi12 [bop 15 .lss 3 14 13 3 0] fr st (.seq c12_11 k) ∧
 evK gS fi12 c12_7 fr st k = evK gS fi12 c12_8 fr st (.blk 0 k) ∧
 (evK gS fi12 c12_5 fr st k = opsR gS fi12 [mv 12 0 26,
 len1 13 12 26 3,
 op1 14 (.move (.const (.int .i64 0))) 3] fr st (.seq c12_7 k)) ∧
 (evK gS fi12 c12_69 fr st k = opsR gS fi12 [mv 66 3 32,
 asn 2 66 32] fr st (.seq .ret k)) ∧
 evK gS fi12 c12_4 fr st k = evK gS fi12 c12_5 fr st (.seq c12_69 k) ∧
 evK gS fi12 c12_2 fr st k = opsR gS fi12 [op1 3 (.assign (.const (.slice none 0 0))) 32] fr st (.seq c12_4 k) ∧
 evK gS fi12 c12_0 fr st k = opsR gS fi12 [op1 2 (.assign (.const (.slice none 0 0))) 32] fr st (.seq c12_2 k) := ⟨evK_r 9 (by kernel_rfl), evK_rs 8 rfl (by kernel_rfl), evK_r 10 (by kernel_rfl), rfl, rfl, evK_rs 7 rfl (by kernel_rfl), rfl, evK_rs 6 rfl (by kernel_rfl), rfl, evK_rs 11 rfl (by kernel_rfl), evK_r 17 (by kernel_rfl), rfl, evK_rs 16 rfl (by kernel_rfl), evK_rs 15 rfl (by kernel_rfl), evK_r 18 (by kernel_rfl), rfl, rfl, evK_rs 14 rfl (by kernel_rfl), rfl, evK_rs 13 rfl (by kernel_rfl), rfl, evK_rs 12 rfl (by kernel_rfl), rfl, evK_rs 5 rfl (by kernel_rfl), evK_rs 4 rfl (by kernel_rfl), evK_r 20 (by kernel_rfl), rfl, rfl, evK_rs 3 rfl (by kernel_rfl), rfl, evK_rs 2 rfl (by kernel_rfl), evK_rs 21 rfl (by kernel_rfl), rfl, evK_rs 1 rfl (by kernel_rfl), evK_rs 0 rfl (by kernel_rfl)⟩
theorem m12 : mini fi12.body = c12_0 := by kernel_rfl
theorem n12_25 (fr : Fr) (st : St) (k : Kt) : nextK gS fi12 (.loop c12_26 k) .normal fr st = evK gS fi12 c12_25 fr st k := rfl
theorem n12_50 (fr : Fr) (st : St) (k : Kt) : nextK gS fi12 (.loop c12_51 k) .normal fr st = evK gS fi12 c12_50 fr st k := rfl
theorem n12_8 (fr : Fr) (st : St) (k : Kt) : nextK gS fi12 (.loop c12_9 k) .normal fr st = evK gS fi12 c12_8 fr st k := rfl
set_option maxHeartbeats 8000000 in
theorem L12_25 (l : List Sub) (hl1 : ∀ x ∈ l, PSm x.filter) (hl2 : l.length ≤ 1000) (s : Sub) (hs : PSm s.filter) (i : Nat) (out : List Grp) (ko : Nat) (st : St) (R : Out × St) (hi : i ≤ l.length) (fin : Bool)
    (H : ∀ (e8 e9 e11 e21 e22 e23 e43 e44 e45 : E) (T : List (Nat × E)) (X : List (Nat × List V)), e8.Tame → e9.Tame → e11.Tame → e21.Tame → e22.Tame → e23.Tame → e43.Tame → e44.Tame → e45.Tame → lk X 5 = some s.cells → evK gS fi12 c12_38 { ps := [(0, .val (.slice (encSubs l))), (2, .own 0 []), (3, .own ko (encGrps out)), (4, .val (.int .i64 (i : Nat))), (5, .lp 5 0), (6, .val (.bool fin)), (8, e8), (9, e9), (11, e11), (12, .val (.slice (encSubs l))), (13, .val (.int .i64 l.length)), (14, .val (.int .i64 (i : Nat))), (21, e21), (22, e22), (23, e23), (43, e43), (44, e44), (45, e45)], ts := T, lc := X } st (.blk 1 (.seq c12_68 (.loop c12_9 (.blk 0 (.seq c12_69 .nil))))) = some R) :
    ∀ (m k : Nat) (b : Bool) (e8 e9 e11 e43 e44 e45 : E) (T : List (Nat × E)) (X : List (Nat × List V)) (h8 : e8.Tame) (h9 : e9.Tame) (h11 : e11.Tame) (h43 : e43.Tame) (h44 : e44.Tame) (h45 : e45.Tame) (hx5 : lk X 5 = some s.cells), k ≤ i → i - k = m → fin = ((l.take i).drop k).foldl (fun b t => b && !fsame s.filter t.filter) b →
    evK gS fi12 c12_25 { ps := [(0, .val (.slice (encSubs l))), (2, .own 0 []), (3, .own ko (encGrps out)), (4, .val (.int .i64 (i : Nat))), (5, .lp 5 0), (6, .val (.bool b)), (8, e8), (9, e9), (11, e11), (12, .val (.slice (encSubs l))), (13, .val (.int .i64 l.length)), (14, .val (.int .i64 (i : Nat))), (21, .val (.slice (encSubs (l.take i)))), (22, .val (.int .i64 (i : Nat))), (23, .val (.int .i64 (k : Nat))), (43, e43), (44, e44), (45, e45)], ts := T, lc := X } st (.blk 2 (.seq c12_38 (.blk 1 (.seq c12_68 (.loop c12_9 (.blk 0 (.seq c12_69 .nil))))))) = some R := by
  intro m
  have hm : fi12.marks = [1000000] := rfl
  have hl : fi12.locals = [5, 8, 9, 11] := rfl
  have hr : fi12.results = [.tmp 2] := rfl
  have hso := hs.ok
  have hlt0 : (l.take i).length = i := by simp; omega
  induction m with
  | zero =>
    intro k b e8 e9 e11 e43 e44 e45 T X h8 h9 h11 h43 h44 h45 hx5 hk hm2 hf
    obtain rfl : k = i := by omega
    rw [List.drop_of_length_le (by omega), List.foldl_nil] at hf
    subst hf
    have HH := H e8 e9 e11 (.val (.slice (encSubs (l.take k)))) (.val (.int .i64 k)) (.val (.int .i64 k)) e43 e44 e45
    refine evK_loop c12_26 _ _ _ _ rfl ?_
    simp [-Int.natCast_add, h8, h9, h11, h43, h44, h45, -Int.not_le, -Int.not_lt, -Nat.not_le, -Nat.not_lt, ty3, ty4, ty22, ty26, ty29, ty31, ty32, ty39, hm, hl, hr, E12, e12_67, n12_25, n12_50, n12_8]
    exact HH _ _ h8 h9 h11 rfl rfl rfl h43 h44 h45 hx5
  | succ m ih =>
    intro k b e8 e9 e11 e43 e44 e45 T X h8 h9 h11 h43 h44 h45 hx5 hk hm2 hf
    obtain ⟨x, hx⟩ : ∃ x, (l.take i)[k]? = some x := ⟨(l.take i)[k]'(by omega), List.getElem?_eq_getElem (by omega)⟩
    have hd := drop_get hx
    have hlt : (k : Int) < (i : Int) := by omega
    obtain ⟨hlt2, hxe⟩ := List.getElem?_eq_some_iff.1 hx
    have hw : IntKind.wrap .i64 ((k : Int) + 1) = ((k + 1 : Nat) : Int) := by rw [wrap64 (by omega) (by omega)]; omega
    have hxo := (hl1 x (List.mem_of_mem_take (List.mem_of_getElem? hx))).ok
    rw [hd, List.foldl_cons] at hf
    have kk : ∀ (fr : Fr) (st : St), callStep gS (EvF gS) 49 [.slice (encPreds s.filter), .slice (encPreds x.filter)] fr st = some (.ok (.val (.bool (fsame s.filter x.filter))) fr st) := fun fr st => k49 _ _ hso hxo fr st
    have IH := fun e8 e9 e11 e43 e44 e45 T X h8 h9 h11 h43 h44 h45 hx5 => ih (k + 1) _ e8 e9 e11 e43 e44 e45 T X h8 h9 h11 h43 h44 h45 hx5 (by omega) (by omega) hf
    generalize fsame s.filter x.filter = q at *
    generalize l.take i = L at *
    subst hlt0
    refine evK_loop c12_26 _ _ _ _ rfl ?_
    simp only [Sub.cells] at hx5
    cases b with
    | false =>
      simp only [Bool.false_and] at IH
      simp [-Int.natCast_add, h8, h9, h11, h43, h44, h45, hx, hxe, hlt, hlt2, hw, hx5, -Int.not_le, -Int.not_lt, -Nat.not_le, -Nat.not_lt, ty3, ty4, ty22, ty26, ty29, ty31, ty32, ty39, hm, hl, hr, E12, e12_67, n12_25, n12_50, n12_8]
      refine IH _ _ _ _ _ _ _ _ ?_ ?_ ?_ ?_ ?_ ?_ ?_
      all_goals simp [h8, h9, h11, h43, h44, h45, hx5]
    | true =>
      simp only [Bool.true_and] at IH
      simp [-Int.natCast_add, h8, h9, h11, h43, h44, h45, hx, hxe, hlt, hlt2, hw, hx5, kk, -Int.not_le, -Int.not_lt, -Nat.not_le, -Nat.not_lt, ty3, ty4, ty22, ty26, ty29, ty31, ty32, ty39, hm, hl, hr, E12, e12_67, n12_25, n12_50, n12_8]
      refine IH _ _ _ _ _ _ _ _ ?_ ?_ ?_ ?_ ?_ ?_ ?_
      all_goals simp [h8, h9, h11, h43, h44, h45, hx5]
set_option maxHeartbeats 8000000 in
theorem L12_50 (l : List Sub) (hl1 : ∀ x ∈ l, PSm x.filter) (hl2 : l.length ≤ 1000) (s : Sub) (hs : PSm s.filter) (i : Nat) (out : List Grp) (ko : Nat) (st : St) (R : Out × St) (fin : List Int)
    (H : ∀ (CL : V) (e8 e11 e21 e22 e23 : E) (T : List (Nat × E)) (X : List (Nat × List V)), CLo CL fin → e8.Tame → e11.Tame → e21.Tame → e22.Tame → e23.Tame → lk X 9 = some [.slice (encPreds s.filter), CL] → evK gS fi12 c12_67 { ps := [(0, .val (.slice (encSubs l))), (2, .own 0 []), (3, .own ko (encGrps out)), (4, .val (.int .i64 (i : Nat))), (5, .lp 5 0), (6, .val (.bool true)), (8, e8), (9, .lp 9 0), (11, e11), (12, .val (.slice (encSubs l))), (13, .val (.int .i64 l.length)), (14, .val (.int .i64 (i : Nat))), (21, e21), (22, e22), (23, e23), (43, .val (.slice (encSubs l))), (44, .val (.int .i64 l.length)), (45, .val (.int .i64 l.length))], ts := T, lc := X } st (.blk 1 (.seq c12_68 (.loop c12_9 (.blk 0 (.seq c12_69 .nil))))) = some R) :
    ∀ (m k : Nat) (acc : List Int) (CL : V) (e8 e11 e21 e22 e23 : E) (T : List (Nat × E)) (X : List (Nat × List V)) (hc : CLo CL acc) (h8 : e8.Tame) (h11 : e11.Tame) (h21 : e21.Tame) (h22 : e22.Tame) (h23 : e23.Tame) (hx5 : lk X 5 = some s.cells) (hx9 : lk X 9 = some [.slice (encPreds s.filter), CL]), k ≤ l.length → l.length - k = m → acc.length ≤ k → fin = (l.drop k).foldl (cliStep s) acc →
    evK gS fi12 c12_50 { ps := [(0, .val (.slice (encSubs l))), (2, .own 0 []), (3, .own ko (encGrps out)), (4, .val (.int .i64 (i : Nat))), (5, .lp 5 0), (6, .val (.bool true)), (8, e8), (9, .lp 9 0), (11, e11), (12, .val (.slice (encSubs l))), (13, .val (.int .i64 l.length)), (14, .val (.int .i64 (i : Nat))), (21, e21), (22, e22), (23, e23), (43, .val (.slice (encSubs l))), (44, .val (.int .i64 l.length)), (45, .val (.int .i64 (k : Nat)))], ts := T, lc := X } st (.blk 4 (.seq c12_67 (.blk 1 (.seq c12_68 (.loop c12_9 (.blk 0 (.seq c12_69 .nil))))))) = some R := by
  intro m
  have hm : fi12.marks = [1000000] := rfl
  have hl : fi12.locals = [5, 8, 9, 11] := rfl
  have hr : fi12.results = [.tmp 2] := rfl
  have hso := hs.ok
  induction m with
  | zero =>
    intro k acc CL e8 e11 e21 e22 e23 T X hc h8 h11 h21 h22 h23 hx5 hx9 hk hm2 ha hf
    obtain rfl : k = l.length := by omega
    rw [List.drop_length, List.foldl_nil] at hf
    subst hf
    refine evK_loop c12_51 _ _ _ _ rfl ?_
    simp [-Int.natCast_add, h8, h11, h21, h22, h23, -Int.not_le, -Int.not_lt, -Nat.not_le, -Nat.not_lt, ty3, ty4, ty22, ty26, ty29, ty31, ty32, ty39, hm, hl, hr, E12, e12_38, n12_25, n12_50, n12_8]
    exact H CL _ _ _ _ _ _ _ hc h8 h11 h21 h22 h23 hx9
  | succ m ih =>
    intro k acc CL e8 e11 e21 e22 e23 T X hc h8 h11 h21 h22 h23 hx5 hx9 hk hm2 ha hf
    obtain ⟨x, hx⟩ : ∃ x, l[k]? = some x := ⟨l[k]'(by omega), List.getElem?_eq_getElem (by omega)⟩
    have hd := drop_get hx
    have hlt : (k : Int) < (l.length : Int) := by omega
    obtain ⟨hlt2, hxe⟩ := List.getElem?_eq_some_iff.1 hx
    have hw : IntKind.wrap .i64 ((k : Int) + 1) = ((k + 1 : Nat) : Int) := by rw [wrap64 (by omega) (by omega)]; omega
    have hxo := (hl1 x (List.mem_of_getElem? hx)).ok
    rw [hd, List.foldl_cons] at hf
    have kk : ∀ (fr : Fr) (st : St), callStep gS (EvF gS) 49 [.slice (encPreds s.filter), .slice (encPreds x.filter)] fr st = some (.ok (.val (.bool (fsame s.filter x.filter))) fr st) := fun fr st => k49 _ _ hso hxo fr st
    have hll := layI_len acc x.client
    simp only [Sub.cells] at hx5
    refine evK_loop c12_51 _ _ _ _ rfl ?_
    cases hq : fsame s.filter x.filter with
    | false =>
      rw [hq] at kk
      have hst : cliStep s acc x = acc := by unfold cliStep; rw [hq]; rfl
      rw [hst] at hf
      have IH := fun e8 e11 e21 e22 e23 T X h8 h11 h21 h22 h23 hx5 hx9 => ih (k + 1) acc CL e8 e11 e21 e22 e23 T X hc h8 h11 h21 h22 h23 hx5 hx9 (by omega) (by omega) (by omega) hf
      simp [-Int.natCast_add, h8, h11, h21, h22, h23, hx, hxe, hlt, hlt2, hw, hx5, hx9, kk, -Int.not_le, -Int.not_lt, -Nat.not_le, -Nat.not_lt, ty3, ty4, ty22, ty26, ty29, ty31, ty32, ty39, hm, hl, hr, E12, e12_38, n12_25, n12_50, n12_8]
      refine IH _ _ _ _ _ _ _ ?_ ?_ ?_ ?_ ?_ ?_ ?_
      all_goals simp [h8, h11, h21, h22, h23, hx5, hx9]
    | true =>
      rw [hq] at kk
      have hst : cliStep s acc x = layI acc x.client := by unfold cliStep; rw [hq]; rfl
      rw [hst] at hf
      have kl := fun fr st => k51 acc (by omega) x.client fr st
      have IH := fun e8 e11 e21 e22 e23 T X h8 h11 h21 h22 h23 hx5 hx9 => ih (k + 1) (layI acc x.client) (.slice (intVs (layI acc x.client))) e8 e11 e21 e22 e23 T X (.inr rfl) h8 h11 h21 h22 h23 hx5 hx9 (by omega) (by omega) (by omega) hf
      have hls : ∀ (X : List (Nat × List V)) (a b : List V), lk X 9 = some a → lk (lset X 9 b) 9 = some b := fun X a b h => lk_lset_self X 9 a b h
      rcases hc with ⟨rfl, rfl⟩ | rfl
      · rw [show intVs [] = [] from rfl] at kl
        simp [-Int.natCast_add, h8, h11, h21, h22, h23, hx, hxe, hlt, hlt2, hw, hx5, hx9, kk, kl, -Int.not_le, -Int.not_lt, -Nat.not_le, -Nat.not_lt, ty3, ty4, ty22, ty26, ty29, ty31, ty32, ty39, hm, hl, hr, E12, e12_38, n12_25, n12_50, n12_8]
        refine IH _ _ _ _ _ _ _ ?_ ?_ ?_ ?_ ?_ ?_ ?_
        all_goals simp [h8, h11, h21, h22, h23, hx5, hx9, lk_lset_self _ _ _ _ hx9]
        all_goals exact lk_lset_self _ _ [.slice (encPreds s.filter), .osl 0 []] _ (by simp [hx9])
      · simp [-Int.natCast_add, h8, h11, h21, h22, h23, hx, hxe, hlt, hlt2, hw, hx5, hx9, kk, kl, -Int.not_le, -Int.not_lt, -Nat.not_le, -Nat.not_lt, ty3, ty4, ty22, ty26, ty29, ty31, ty32, ty39, hm, hl, hr, E12, e12_38, n12_25, n12_50, n12_8]
        refine IH _ _ _ _ _ _ _ ?_ ?_ ?_ ?_ ?_ ?_ ?_
        all_goals simp [h8, h11, h21, h22, h23, hx5, hx9, lk_lset_self _ _ _ _ hx9]
        all_goals exact lk_lset_self _ _ [.slice (encPreds s.filter), .slice (intVs acc)] _ (by simp [hx9])
set_option maxHeartbeats 8000000 in
theorem L12 (l : List Sub) (hl1 : ∀ x ∈ l, PSm x.filter) (hl2 : l.length ≤ 1000) (st : St) :
    ∀ (m i : Nat) (out : List Grp) (e4 e5 e6 e8 e9 e11 e21 e22 e23 e43 e44 e45 : E) (T : List (Nat × E)) (X : List (Nat × List V)) (h4 : e4.Tame) (h5 : e5.Tame) (h6 : e6.Tame) (h8 : e8.Tame) (h9 : e9.Tame) (h11 : e11.Tame) (h21 : e21.Tame) (h22 : e22.Tame) (h23 : e23.Tame) (h43 : e43.Tame) (h44 : e44.Tame) (h45 : e45.Tame), i ≤ l.length → l.length - i = m → out.length ≤ i →
    evK gS fi12 c12_8 { ps := [(0, .val (.slice (encSubs l))), (2, .own 0 []), (3, .own (kof 2 out) (encGrps out)), (4, e4), (5, e5), (6, e6), (8, e8), (9, e9), (11, e11), (12, .val (.slice (encSubs l))), (13, .val (.int .i64 l.length)), (14, .val (.int .i64 (i : Nat))), (21, e21), (22, e22), (23, e23), (43, e43), (44, e44), (45, e45)], ts := T, lc := X } st (.blk 0 (.seq c12_69 .nil)) = some (.ret (.slice (encGrps (gofG l i (l.drop i) out))) none, st) := by
  intro m
  have hm : fi12.marks = [1000000] := rfl
  have hl : fi12.locals = [5, 8, 9, 11] := rfl
  have hr : fi12.results = [.tmp 2] := rfl
  induction m with
  | zero =>
    intro i out e4 e5 e6 e8 e9 e11 e21 e22 e23 e43 e44 e45 T X h4 h5 h6 h8 h9 h11 h21 h22 h23 h43 h44 h45 hi hm2 ho
    obtain rfl : i = l.length := by omega
    rw [List.drop_length]
    have hz := frz_slice (xs := encGrps out) (flats_grps out) st
    show _ = some (Out.ret (V.slice (encGrps out)) none, st)
    refine evK_loop c12_9 _ _ _ _ rfl ?_
    rcases kof_or 1 out with ⟨hk, rfl⟩ | hk
    · have hk2 : kof 2 ([] : List Grp) = 0 := rfl
      have en : encGrps [] = [] := rfl
      rw [en] at hz
      rw [hk2, en]
      simp [h4, h5, h6, h8, h9, h11, h21, h22, h23, h43, h44, h45, hz, -Int.not_le, -Int.not_lt, -Nat.not_le, -Nat.not_lt, ty3, ty4, ty22, ty26, ty29, ty31, ty32, ty39, hm, hl, hr, E12, e12_38, n12_25, n12_50, n12_8]
    · have hk2 : kof 2 out = 2 := by
        unfold kof at hk ⊢; split at hk <;> simp_all
      rw [hk2]
      simp [h4, h5, h6, h8, h9, h11, h21, h22, h23, h43, h44, h45, hz, -Int.not_le, -Int.not_lt, -Nat.not_le, -Nat.not_lt, ty3, ty4, ty22, ty26, ty29, ty31, ty32, ty39, hm, hl, hr, E12, e12_38, n12_25, n12_50, n12_8]
  | succ m ih =>
    intro i out e4 e5 e6 e8 e9 e11 e21 e22 e23 e43 e44 e45 T X h4 h5 h6 h8 h9 h11 h21 h22 h23 h43 h44 h45 hi hm2 ho
    obtain ⟨s, hx⟩ : ∃ s, l[i]? = some s := ⟨l[i]'(by omega), List.getElem?_eq_getElem (by omega)⟩
    have hd := drop_get hx
    have hlt : (i : Int) < (l.length : Int) := by omega
    obtain ⟨hlt2, hxe⟩ := List.getElem?_eq_some_iff.1 hx
    have hw : IntKind.wrap .i64 ((i : Int) + 1) = ((i + 1 : Nat) : Int) := by rw [wrap64 (by omega) (by omega)]; omega
    have hs := hl1 s (List.mem_of_getElem? hx)
    have hso := hs.ok
    rw [hd]
    have hgo : gofG l i (s :: l.drop (i + 1)) out = gofG l (i + 1) (l.drop (i + 1)) (if fstOf l i s then out ++ [⟨s.filter, cliOf l s⟩] else out) := rfl
    rw [hgo]
    have hol : (if fstOf l i s then out ++ [⟨s.filter, cliOf l s⟩] else out).length ≤ i + 1 := by
      split
      · simp; omega
      · omega
    have IH := fun e4 e5 e6 e8 e9 e11 e21 e22 e23 e43 e44 e45 T X h4 h5 h6 h8 h9 h11 h21 h22 h23 h43 h44 h45 => ih (i + 1) (if fstOf l i s then out ++ [⟨s.filter, cliOf l s⟩] else out) e4 e5 e6 e8 e9 e11 e21 e22 e23 e43 e44 e45 T X h4 h5 h6 h8 h9 h11 h21 h22 h23 h43 h44 h45 (by omega) (by omega) hol
    generalize hR : (Out.ret (V.slice (encGrps (gofG l (i + 1) (l.drop (i + 1)) (if fstOf l i s then out ++ [⟨s.filter, cliOf l s⟩] else out)))) none, st) = R at IH ⊢
    clear hR
    have HA : ∀ (e8 e9 e11 e21 e22 e23 e43 e44 e45 : E) (T : List (Nat × E)) (X : List (Nat × List V)), e8.Tame → e9.Tame → e11.Tame → e21.Tame → e22.Tame → e23.Tame → e43.Tame → e44.Tame → e45.Tame → lk X 5 = some s.cells → evK gS fi12 c12_38 { ps := [(0, .val (.slice (encSubs l))), (2, .own 0 []), (3, .own (kof 2 out) (encGrps out)), (4, .val (.int .i64 (i : Nat))), (5, .lp 5 0), (6, .val (.bool (fstOf l i s))), (8, e8), (9, e9), (11, e11), (12, .val (.slice (encSubs l))), (13, .val (.int .i64 l.length)), (14, .val (.int .i64 (i : Nat))), (21, e21), (22, e22), (23, e23), (43, e43), (44, e44), (45, e45)], ts := T, lc := X } st (.blk 1 (.seq c12_68 (.loop c12_9 (.blk 0 (.seq c12_69 .nil))))) = some R := by
      intro e8 e9 e11 e21 e22 e23 e43 e44 e45 T X h8 h9 h11 h21 h22 h23 h43 h44 h45 hx5
      cases hq : fstOf l i s with
      | false =>
        rw [hq] at IH
        simp only [Bool.false_eq_true, if_false] at IH
        simp [-Int.natCast_add, h8, h9, h11, h21, h22, h23, h43, h44, h45, hw, -Int.not_le, -Int.not_lt, -Nat.not_le, -Nat.not_lt, ty3, ty4, ty22, ty26, ty29, ty31, ty32, ty39, hm, hl, hr, E12, e12_38, n12_25, n12_50, n12_8]
        refine IH _ _ _ _ _ _ _ _ _ _ _ _ _ _ ?_ ?_ ?_ ?_ ?_ ?_ ?_ ?_ ?_ ?_ ?_ ?_
        all_goals simp [h8, h9, h11, h21, h22, h23, h43, h44, h45]
      | true =>
        rw [hq] at IH
        simp only [if_true] at IH
        have kc := fun fr st => k50 s.filter hs fr st
        have hs1 := sizes_grps out
        have hs2 := grps_snoc out ⟨s.filter, cliOf l s⟩
        have b1 : (out.length + 1) * 48 ≤ 140737488355328 := by omega
        have b2 : out.length + 1 ≤ 140737488355328 := by omega
        rw [kof_snoc] at IH
        have HB : ∀ (CL : V) (e8 e11 e21 e22 e23 : E) (T : List (Nat × E)) (X : List (Nat × List V)), CLo CL (cliOf l s) → e8.Tame → e11.Tame → e21.Tame → e22.Tame → e23.Tame → lk X 9 = some [.slice (encPreds s.filter), CL] → evK gS fi12 c12_67 { ps := [(0, .val (.slice (encSubs l))), (2, .own 0 []), (3, .own (kof 2 out) (encGrps out)), (4, .val (.int .i64 (i : Nat))), (5, .lp 5 0), (6, .val (.bool true)), (8, e8), (9, .lp 9 0), (11, e11), (12, .val (.slice (encSubs l))), (13, .val (.int .i64 l.length)), (14, .val (.int .i64 (i : Nat))), (21, e21), (22, e22), (23, e23), (43, .val (.slice (encSubs l))), (44, .val (.int .i64 l.length)), (45, .val (.int .i64 l.length))], ts := T, lc := X } st (.blk 1 (.seq c12_68 (.loop c12_9 (.blk 0 (.seq c12_69 .nil))))) = some R := by
          intro CL e8 e11 e21 e22 e23 T X hc h8 h11 h21 h22 h23 hx9
          generalize cliOf l s = cl at *
          have en : encGrps [] = [] := rfl
          have en1 : encGrps ([] ++ [⟨s.filter, cl⟩]) = [.agg [.slice (encPreds s.filter), .slice (intVs cl)]] := rfl
          rcases hc with ⟨rfl, rfl⟩ | rfl
          · rw [show intVs [] = [] from rfl] at hs2 en1
            rcases kof_or 2 out with ⟨hk, rfl⟩ | hk
            · rw [hk, en]
              rw [en1] at IH
              simp [-Int.natCast_add, h8, h11, h21, h22, h23, hx9, hw, -Int.not_le, -Int.not_lt, -Nat.not_le, -Nat.not_lt, ty3, ty4, ty22, ty26, ty29, ty31, ty32, ty39, hm, hl, hr, E12, e12_67, e12_38, n12_25, n12_50, n12_8]
              refine IH _ _ _ _ _ _ _ _ _ _ _ _ _ _ ?_ ?_ ?_ ?_ ?_ ?_ ?_ ?_ ?_ ?_ ?_ ?_
              all_goals simp [h8, h11, h21, h22, h23]
            · rw [hk]
              simp [-Int.natCast_add, -List.append_assoc, h8, h11, h21, h22, h23, hx9, hw, hs1, hs2, b1, b2, -Int.not_le, -Int.not_lt, -Nat.not_le, -Nat.not_lt, ty3, ty4, ty22, ty26, ty29, ty31, ty32, ty39, hm, hl, hr, E12, e12_67, e12_38, n12_25, n12_50, n12_8]
              refine IH _ _ _ _ _ _ _ _ _ _ _ _ _ _ ?_ ?_ ?_ ?_ ?_ ?_ ?_ ?_ ?_ ?_ ?_ ?_
              all_goals simp [h8, h11, h21, h22, h23]
          · rcases kof_or 2 out with ⟨hk, rfl⟩ | hk
            · rw [hk, en]
              rw [en1] at IH
              simp [-Int.natCast_add, h8, h11, h21, h22, h23, hx9, hw, -Int.not_le, -Int.not_lt, -Nat.not_le, -Nat.not_lt, ty3, ty4, ty22, ty26, ty29, ty31, ty32, ty39, hm, hl, hr, E12, e12_67, e12_38, n12_25, n12_50, n12_8]
              refine IH _ _ _ _ _ _ _ _ _ _ _ _ _ _ ?_ ?_ ?_ ?_ ?_ ?_ ?_ ?_ ?_ ?_ ?_ ?_
              all_goals simp [h8, h11, h21, h22, h23]
            · rw [hk]
              simp [-Int.natCast_add, -List.append_assoc, h8, h11, h21, h22, h23, hx9, hw, hs1, hs2, b1, b2, -Int.not_le, -Int.not_lt, -Nat.not_le, -Nat.not_lt, ty3, ty4, ty22, ty26, ty29, ty31, ty32, ty39, hm, hl, hr, E12, e12_67, e12_38, n12_25, n12_50, n12_8]
              refine IH _ _ _ _ _ _ _ _ _ _ _ _ _ _ ?_ ?_ ?_ ?_ ?_ ?_ ?_ ?_ ?_ ?_ ?_ ?_
              all_goals simp [h8, h11, h21, h22, h23]
        have LB := fun CL e8 e11 e21 e22 e23 T X hc h8 h11 h21 h22 h23 hx5 hx9 => L12_50 l hl1 hl2 s hs i out (kof 2 out) st R (cliOf l s) HB l.length 0 [] CL e8 e11 e21 e22 e23 T X hc h8 h11 h21 h22 h23 hx5 hx9 (Nat.zero_le _) rfl (Nat.le_refl _) rfl
        rw [show ((0 : Nat) : Int) = 0 from rfl] at LB
        simp only [Sub.cells] at hx5
        simp [-Int.natCast_add, h8, h9, h11, h21, h22, h23, h43, h44, h45, hx5, kc, -Int.not_le, -Int.not_lt, -Nat.not_le, -Nat.not_lt, ty3, ty4, ty22, ty26, ty29, ty31, ty32, ty39, hm, hl, hr, E12, e12_38, n12_25, n12_50, n12_8]
        refine LB (.osl 0 []) _ _ _ _ _ _ _ (.inl ⟨rfl, rfl⟩) ?_ ?_ ?_ ?_ ?_ ?_ ?_
        all_goals simp [h8, h9, h11, h21, h22, h23, hx5]
    have LA := fun e8 e9 e11 e43 e44 e45 T X h8 h9 h11 h43 h44 h45 hx5 => L12_25 l hl1 hl2 s hs i out (kof 2 out) st R hi (fstOf l i s) HA i 0 true e8 e9 e11 e43 e44 e45 T X h8 h9 h11 h43 h44 h45 hx5 (Nat.zero_le _) rfl (by rw [List.drop_zero]; rfl)
    rw [show ((0 : Nat) : Int) = 0 from rfl] at LA
    have htk : (encSubs l).take i = encSubs (l.take i) := by simp [encSubs]
    have hsz := sizes_subs l
    have hi1 : (i : Int) ≤ (l.length : Int) := by omega
    have hi0 : (0 : Int) ≤ (i : Int) := by omega
    have hmin : min i l.length = i := by omega
    refine evK_loop c12_9 _ _ _ _ rfl ?_
    simp [-Int.natCast_add, h4, h5, h6, h8, h9, h11, h21, h22, h23, h43, h44, h45, hx, hxe, hlt, hlt2, htk, hsz, hi0, hi1, hmin, -Int.not_le, -Int.not_lt, -Nat.not_le, -Nat.not_lt, ty3, ty4, ty22, ty26, ty29, ty31, ty32, ty39, hm, hl, hr, E12, e12_38, n12_25, n12_50, n12_8]
    refine LA _ _ _ _ _ _ _ _ ?_ ?_ ?_ ?_ ?_ ?_ ?_
    all_goals simp [h8, h9, h11, h43, h44, h45]
set_option maxHeartbeats 8000000 in
theorem c12 (l : List Sub) (hl1 : ∀ x ∈ l, PSm x.filter) (hl2 : l.length ≤ 1000) (st : St) : EvF gS 12 [.slice (encSubs l)] st = some (.ret (.slice (encGrps (gof l))) none, st) := by
  refine EvF_start fi54_eq (fun x h => by cases h) m12 ?_
  rw [st12]
  have hm : fi12.marks = [1000000] := rfl
  have hl : fi12.locals = [5, 8, 9, 11] := rfl
  have hr : fi12.results = [.tmp 2] := rfl
  have L0 := fun e4 e5 e6 e8 e9 e11 e21 e22 e23 e43 e44 e45 T X h4 h5 h6 h8 h9 h11 h21 h22 h23 h43 h44 h45 => L12 l hl1 hl2 st l.length 0 [] e4 e5 e6 e8 e9 e11 e21 e22 e23 e43 e44 e45 T X h4 h5 h6 h8 h9 h11 h21 h22 h23 h43 h44 h45 (Nat.zero_le _) rfl (Nat.le_refl _)
  simp only [show ((0 : Nat) : Int) = 0 from rfl, List.drop_zero, show kof 2 ([] : List Grp) = 0 from rfl, show encGrps [] = [] from rfl] at L0
  show _ = some (Out.ret (V.slice (encGrps (gofG l 0 l []))) none, st)
  simp [L0, -Int.not_le, -Int.not_lt, -Nat.not_le, -Nat.not_lt, ty3, ty4, ty22, ty26, ty29, ty31, ty32, ty39, hm, hl, hr, E12, e12_67, e12_38, n12_25, n12_50, n12_8]
theorem k12 (l : List Sub) (hl1 : ∀ x ∈ l, PSm x.filter) (hl2 : l.length ≤ 1000) (fr : Fr) (st : St) : callStep gS (EvF gS) 12 [.slice (encSubs l)] fr st = some (.ok (.val (.slice (encGrps (gof l)))) (fr.map E.noMem) st) := by
  unfold callStep
  simp only [show gS.ext 12 = none from rfl, fi54_eq, show fi12.pure = false from rfl, Bool.false_eq_true, if_false, c12 l hl1 hl2 st, retE]
def fi10 : FI := { body := codeOf Try.f10, ntmps := 59, results := [.tmp 4], pers := [0, 1, 4, 5, 6, 7, 8, 9, 10, 11, 12], locals := [11], pure := false, marks := [1000000] }
theorem fi53_eq : gS.fn 10 = some fi10 := by kernel_rfl
theorem st10 (a0 a1 : V) : startFr fi10 [a0, a1] = { ps := [(0, .val a0), (1, .val a1), (4, .any), (5, .any), (6, .any), (7, .any), (8, .any), (9, .any), (10, .any), (11, .any), (12, .any)], ts := [], lc := [] } := rfl
def b10 : Code := mini (codeOf Try.f10)
def c10_14 : Code := .cond (.tmp 19) .skip (.exit 0)
def c10_12 : Code := .seq (codeN b10 535) c10_14
def c10_30 : Code := .cond (.tmp 30) .skip (.exit 2)
def c10_28 : Code := .seq (codeN b10 138391) c10_30
def c10_45 : Code := codeN b10 23895191
def c10_44 : Code := .cond (.tmp 47) c10_45 .skip
def c10_42 : Code := .seq (codeN b10 11312279) c10_44
def c10_40 : Code := .seq (codeN b10 5020823) c10_42
def c10_47 : Code := codeN b10 3972247
def c10_39 : Code := .seq c10_40 c10_47
def c10_37 : Code := .seq (codeN b10 1350807) c10_39
def c10_35 : Code := .seq (codeN b10 564375) c10_37
def c10_48 : Code := codeN b10 236695
def c10_33 : Code := .seq (.block 3 c10_35) c10_48
def c10_27 : Code := .seq c10_28 c10_33
def c10_26 : Code := .loop c10_27
def c10_25 : Code := .block 2 c10_26
def c10_23 : Code := .seq (codeN b10 11415) c10_25
def c10_21 : Code := .seq (codeN b10 5271) c10_23
def c10_19 : Code := .seq (codeN b10 2199) c10_21
def c10_49 : Code := codeN b10 919
theorem e10_49 : evK gS fi10 c10_49 fr st k = opsR gS fi10 [mv 20 7 3,
 op1 21 (.binOp .add 3 (.tmp 20) (.const (.int .i64 1)) 3) 3,
 asn 7 21 3] fr st k := evK_r 5 (by kernel_rfl)
def c10_17 : Code := .seq (.block 1 c10_19) c10_49
def c10_11 : Code := .seq c10_12 c10_17
def c10_10 : Code := .loop c10_11
def c10_9 : Code := .block 0 c10_10
def c10_7 : Code := .seq (codeN b10 39) c10_9
def c10_50 : Code := .seq (codeN b10 47) .ret
def c10_6 : Code := .seq c10_7 c10_50
def c10_4 : Code := .seq (codeN b10 11) c10_6
def c10_2 : Code := .seq (codeN b10 5) c10_4
def c10_0 : Code := .seq (codeN b10 2) c10_2
theorem E10 : evK gS fi10 c10_14 fr st k = condK gS fi10 (fr.op (.tmp 19)).bool? .skip (.exit 0) fr st k ∧
 (evK gS fi10 c10_12 fr st k = opsR gS fi10 [mv 18 7 3,
 op1 19 (.binOp .leq 3 (.tmp 18) (.const (.int .i64 6)) 3) 4] fr st (.seq c10_14 k)) ∧
 evK gS fi10 c10_30 fr st k = condK gS fi10 (fr.op (.tmp 30)).bool? .skip (.exit 2) fr st k ∧
 (evK gS fi10 c10_28 fr st k = opsR gS fi10 [mv 29 10 3,
 op1 30 (.binOp .gtr 3 (.tmp 29) (.const (.int .i64 0)) 3) 4] fr st (.seq c10_30 k)) ∧
 (evK gS fi10 c10_45 fr st k = opsR gS fi10 [mv 48 6 77,
 mv 49 12 3,
 ixa 50 77 48 49 0,
 ld 51 29 50 29,
 cal 52 48 [(.tmp 51)] [29] 29,
 op1 53 (.fieldAddr 31 (.tmp 11) 3) 0,
 sto 29 53 52] fr st k) ∧
 evK gS fi10 c10_44 fr st k = condK gS fi10 (fr.op (.tmp 47)).bool? c10_45 .skip fr st k ∧
 (evK gS fi10 c10_42 fr st k = opsR gS fi10 [mv 46 12 3,
 op1 47 (.binOp .lss 3 (.tmp 46) (.const (.int .i64 3)) 3) 4] fr st (.seq c10_44 k)) ∧
 (evK gS fi10 c10_40 fr st k = opsR gS fi10 [mv 44 0 23,
 cal 45 11 [(.tmp 44), (.const (.int .i64 6))] [23, 3] 3,
 asn 12 45 3] fr st (.seq c10_42 k)) ∧
 (evK gS fi10 c10_47 fr st k = opsR gS fi10 [mv 54 5 26,
 ld 55 31 11 31,
 op1 56 (.buildSlice 26 1 #[(0, (.tmp 55))]) 26,
 op1 57 (.call { callee := (.builtin .append), args := #[(.tmp 54), (.tmp 56)], argTypes := #[26, 26] }) 26,
 asn 5 57 26] fr st k) ∧
 evK gS fi10 c10_39 fr st k = evK gS fi10 c10_40 fr st (.seq c10_47 k) ∧
 (evK gS fi10 c10_37 fr st k = opsR gS fi10 [mv 38 7 3,
 mv 39 8 3,
 mv 40 9 3,
 mv 41 0 23,
 cal 42 40 [(.tmp 41)] [23] 29,
 op1 43 (.build 31 #[(0, (.tmp 38)), (1, (.tmp 39)), (2, (.tmp 40)), (3, (.tmp 42))]) 31,
 op1 11 (.alloc 31) 0,
 sto 31 11 43] fr st (.seq c10_39 k)) ∧
 (evK gS fi10 c10_35 fr st k = opsR gS fi10 [mv 33 9 3,
 op1 34 (.binOp .add 3 (.tmp 33) (.const (.int .i64 1)) 3) 3,
 mv 35 0 23,
 cal 36 11 [(.tmp 35), (.const (.int .i64 2))] [23, 3] 3,
 bop 37 .add 3 34 36 3 3,
 asn 9 37 3] fr st (.seq c10_37 k)) ∧
 (evK gS fi10 c10_48 fr st k = opsR gS fi10 [mv 31 10 3,
 op1 32 (.binOp .sub 3 (.tmp 31) (.const (.int .i64 1)) 3) 3,
 asn 10 32 3] fr st k) ∧
 evK gS fi10 c10_33 fr st k = evK gS fi10 c10_35 fr st (.blk 3 (.seq c10_48 k)) ∧
 evK gS fi10 c10_27 fr st k = evK gS fi10 c10_28 fr st (.seq c10_33 k) ∧
 evK gS fi10 c10_25 fr st k = evK gS fi10 c10_26 fr st (.blk 2 k) ∧
 (evK gS fi10 c10_23 fr st k = opsR gS fi10 [mv 27 0 23,
 cal 28 11 [(.tmp 27), (.const (.int .i64 4))] [23, 3] 3,
 asn 10 28 3] fr st (.seq c10_25 k)) ∧
 evK gS fi10 c10_21 fr st k = opsR gS fi10 [op1 9 (.assign (.const (.int .i64 0))) 3] fr st (.seq c10_23 k) ∧
 (evK gS fi10 c10_19 fr st k = opsR gS fi10 [mv 22 0 23,
 mv 23 1 22,
 len1 24 23 22 3,
 op1 25 (.binOp .add 3 (.tmp 24) (.const (.int .i64 1)) 3) 3,
 cal 26 11 [(.tmp 22), (.tmp 25)] [23, 3] 3,
 asn 8 26 3] fr st (.seq c10_21 k)) ∧
 evK gS fi10 c10_17 fr st k = evK gS fi10 c10_19 fr st (.blk 1 (.seq c10_49 k)) ∧
 evK gS fi10 c10_11 fr st k = evK gS fi10 c10_12 fr st (.seq c10_17 k) ∧
 evK gS fi10 c10_9 fr st k = evK gS fi10 c10_10 fr st (.blk 0 k) ∧
 evK gS fi10 c10_7 fr st k = opsR gS fi10 [op1 7 (.assign (.const (.int .i64 1))) 3] fr st (.seq c10_9 k) ∧
 (evK gS fi10 c10_50 fr st k = opsR gS fi10 [mv 58 5 26,
 asn 4 58 26] fr st (.seq .ret k)) ∧
 evK gS fi10 c10_6 fr st k = evK gS fi10 c10_7 fr st (.seq c10_50 k) ∧
 (evK gS fi10 c10_4 fr st k = opsR gS fi10 [mv 13 0 23,
 cal 14 40 [(.tmp 13)] [23] 29,
 mv 15 0 23,
 cal 16 40 [(.tmp 15)] [23] 29,
 op1 17 (.buildSlice 77 3 #[(0, (.tmp 14)), (1, (.tmp 16)), (2, (.const (.slice none 0 0)))]) 77,
 asn 6 17 77] fr st (.seq c10_6 k)) ∧
 evK gS fi10 c10_2 fr st k = opsR gS fi10 [op1 5 (.assign (.const (.slice none 0 0))) 26] fr st (.seq c10_4 k) ∧
 evK gS fi10 c10_0 fr st k = opsR gS fi10 [op1 4 (.assign (.const (.slice none 0 0))) 26] fr st (.seq c10_2 k) := ⟨rfl, evK_rs 4 rfl (by kernel_rfl), rfl, evK_rs 9 rfl (by kernel_rfl), evK_r 15 (by kernel_rfl), rfl, evK_rs 14 rfl (by kernel_rfl), evK_rs 13 rfl (by kernel_rfl), evK_r 16 (by kernel_rfl), rfl, evK_rs 12 rfl (by kernel_rfl), evK_rs 11 rfl (by kernel_rfl), evK_r 10 (by kernel_rfl), rfl, rfl, rfl, evK_rs 8 rfl (by kernel_rfl), evK_rs 7 rfl (by kernel_rfl), evK_rs 6 rfl (by kernel_rfl), rfl, rfl, rfl, evK_rs 3 rfl (by kernel_rfl), evK_rs 17 rfl (by kernel_rfl), rfl, evK_rs 2 rfl (by kernel_rfl), evK_rs 1 rfl (by kernel_rfl), evK_rs 0 rfl (by kernel_rfl)⟩
theorem m10 : mini fi10.body = c10_0 := by kernel_rfl
theorem n10_26 (fr : Fr) (st : St) (k : Kt) : nextK gS fi10 (.loop c10_27 k) .normal fr st = evK gS fi10 c10_26 fr st k := rfl
theorem n10_10 (fr : Fr) (st : St) (k : Kt) : nextK gS fi10 (.loop c10_11 k) .normal fr st = evK gS fi10 c10_10 fr st k := rfl
set_option maxHeartbeats 8000000 in
theorem L10_26 (l : List Int) (a id : Nat) (ha : a < 549755813888) (st : St) (h : FeedOk st id) (ps : List Int) (fs : List (List Pred)) (hfs : ∀ f ∈ fs, PSm f) (hfl : fs.length = 3) (c home : Int) (R : Out × St) : ∀ (r j d : Nat) (num : Int) (out : List Sub) (e11 e12 : E) (T : List (Nat × E)) (X : List (Nat × List V)) (h11 : e11.Tame) (h12 : e12.Tame), out.length + r < 1000 → 0 ≤ num → num + 2 * r < 1000000 → j + 36 * r < 549755800000 →
    (∀ e9 e11 e12 T X, e9.Tame → e11.Tame → e12.Tame → evK gS fi10 c10_49 { ps := [(0, .val (.ptr id 0)), (1, .val (.slice (intVs ps))), (4, .own 0 []), (5, .own (kof 4 (subsI l a fs c home r num j d out).1) (encSubs (subsI l a fs c home r num j d out).1)), (6, .own 1 (encPredss fs)), (7, .val (.int .i64 c)), (8, .val (.int .i64 home)), (9, e9), (10, .val (.int .i64 0)), (11, e11), (12, e12)], ts := T, lc := X } (setF (dd st (subsI l a fs c home r num j d out).2.2) id l (nA l a (subsI l a fs c home r num j d out).2.1)) (.loop c10_11 (.blk 0 (.seq c10_50 .nil))) = some R) →
    evK gS fi10 c10_26 { ps := [(0, .val (.ptr id 0)), (1, .val (.slice (intVs ps))), (4, .own 0 []), (5, .own (kof 4 out) (encSubs out)), (6, .own 1 (encPredss fs)), (7, .val (.int .i64 c)), (8, .val (.int .i64 home)), (9, .val (.int .i64 num)), (10, .val (.int .i64 (r : Nat))), (11, e11), (12, e12)], ts := T, lc := X } (setF (dd st d) id l (nA l a j)) (.blk 2 (.blk 1 (.seq c10_49 (.loop c10_11 (.blk 0 (.seq c10_50 .nil)))))) = some R := by
  intro r
  have hm : fi10.marks = [1000000] := rfl
  have hl : fi10.locals = [11] := rfl
  have hr : fi10.results = [.tmp 4] := rfl
  induction r with
  | zero =>
    intro j d num out e11 e12 T X h11 h12 hol hn0 hn1 hj H
    rw [show subsI l a fs c home 0 num j d out = (out, j, d) from rfl] at H
    refine evK_loop c10_27 _ _ _ _ rfl ?_
    rcases kof_or 4 out with ⟨hk, rfl⟩ | hk
    · have en : encSubs [] = [] := rfl
      rw [hk, en] at H ⊢
      simp [-St.obj, -St.set, h11, h12, -Int.not_le, -Int.not_lt, -Nat.not_le, -Nat.not_lt, ty3, ty4, ty22, ty23, ty26, ty29, ty31, ty77, hm, hl, hr, E10, n10_26, n10_10]
      exact H _ _ _ _ _ (tame_val _) h11 h12
    · rw [hk] at H ⊢
      simp [-St.obj, -St.set, h11, h12, -Int.not_le, -Int.not_lt, -Nat.not_le, -Nat.not_lt, ty3, ty4, ty22, ty23, ty26, ty29, ty31, ty77, hm, hl, hr, E10, n10_26, n10_10]
      exact H _ _ _ _ _ (tame_val _) h11 h12
  | succ r ih =>
    intro j d num out e11 e12 T X h11 h12 hol hn0 hn1 hj H
    have hb2 := fd_bound l a j (n := 2) (by omega)
    have k1 := fun fr => k11 l a j id 2 fr (dd st d) (h.dd d) ha (by omega) (by omega)
    have k2 := fun fr => k40 l a (j + 1) id fr (dd st d) (h.dd d) ha (by omega)
    rw [dd_dd] at k2
    have hfa := filterV_asks l a (j + 1)
    have hff := filterV_ffv l a (j + 1)
    simp only [subsI] at H
    have k3 := fun fr => k11 l a (filterV l a (j + 1)).2.1 id 6 fr (dd st (d + (filterV l a (j + 1)).2.2)) (h.dd _) ha (by omega) (by omega)
    have hb6 := fd_bound l a (filterV l a (j + 1)).2.1 (n := 6) (by omega)
    have IH := fun out' (ho : out'.length = out.length + 1) e11 e12 T X h11 h12 => ih ((filterV l a (j + 1)).2.1 + 1) (d + (filterV l a (j + 1)).2.2) (num + 1 + fd l a j 2) out' e11 e12 T X h11 h12 (by omega) (by omega) (by omega) (by omega)
    generalize filterV l a (j + 1) = F at *
    obtain ⟨f, J, D⟩ := F
    simp only at k2 k3 hfa hff hb6 H IH
    have hpf := psm_ffv hff
    generalize hz : fd l a J 6 = z at *
    generalize fd l a j 2 = y at *
    have hw1 : IntKind.wrap .i64 (num + 1) = num + 1 := wrap64 (by omega) (by omega)
    have hw2 : IntKind.wrap .i64 (num + 1 + y) = num + 1 + y := wrap64 (by omega) (by omega)
    have hw3 : IntKind.wrap .i64 (((r + 1 : Nat) : Int) - 1) = (r : Int) := by rw [wrap64 (by omega) (by omega)]; omega
    have hpos : (0 : Int) < ((r + 1 : Nat) : Int) := by omega
    have hs1 := sizes_subs out
    have b1 : (out.length + 1) * 48 ≤ 140737488355328 := by omega
    have b2 : out.length + 1 ≤ 140737488355328 := by omega
    refine evK_loop c10_27 _ _ _ _ rfl ?_
    by_cases hz3 : z < 3
    · rw [if_pos hz3] at H
      obtain ⟨q, rfl⟩ : ∃ q : Nat, z = (q : Int) := ⟨z.toNat, by omega⟩
      rw [Int.toNat_natCast] at H
      have hq : q < fs.length := by omega
      have hqi : (q : Int) < (fs.length : Int) := by omega
      obtain ⟨x, hx⟩ : ∃ x, fs[q]? = some x := ⟨fs[q]'hq, List.getElem?_eq_getElem hq⟩
      have hxe : fs[q]'hq = x := (List.getElem?_eq_some_iff.1 hx).2
      have hgd : fs.getD q [] = x := by rw [List.getD_eq_getElem?_getD, hx]; rfl
      rw [hgd] at H
      have hpx := hfs x (List.mem_of_getElem? hx)
      have k4 := fun fr st => k48 x hpx fr st
      have XX := IH (out ++ [⟨c, home, num + 1 + y, x⟩]) (by simp)
      have IHx := fun e11 e12 T X h11 h12 => XX e11 e12 T X h11 h12 H
      rw [kof_snoc] at IHx
      have hs2 := subs_snoc out ⟨c, home, num + 1 + y, x⟩
      have en : encSubs [] = [] := rfl
      have en1 : encSubs ([] ++ [⟨c, home, num + 1 + y, x⟩]) = [.agg [.int .i64 c, .int .i64 home, .int .i64 (num + 1 + y), .slice (encPreds x)]] := rfl
      have hkk : ¬ (kof 13 x = 0 ∧ ¬ encPreds x = []) := by
        unfold kof; split
        · rename_i h; rw [h]; simp [encPreds]
        · simp
      generalize kof 13 x = kx at *
      rcases kof_or 4 out with ⟨hk, rfl⟩ | hk
      · rw [hk, en]
        rw [en1] at IHx
        simp [-Int.natCast_add, -St.obj, -St.set, h11, h12, k1, k2, k3, k4, hw1, hw2, hw3, hpos, hz3, hq, hqi, hx, hxe, hkk, -Int.not_le, -Int.not_lt, -Nat.not_le, -Nat.not_lt, ty3, ty4, ty22, ty23, ty26, ty29, ty31, ty77, hm, hl, hr, E10, n10_26, n10_10]
        refine IHx _ _ _ _ ?_ ?_
        all_goals simp [h11, h12]
      · rw [hk]
        simp [-Int.natCast_add, -List.append_assoc, -St.obj, -St.set, h11, h12, k1, k2, k3, k4, hw1, hw2, hw3, hpos, hz3, hq, hqi, hx, hxe, hkk, hs1, hs2, b1, b2, -Int.not_le, -Int.not_lt, -Nat.not_le, -Nat.not_lt, ty3, ty4, ty22, ty23, ty26, ty29, ty31, ty77, hm, hl, hr, E10, n10_26, n10_10]
        refine IHx _ _ _ _ ?_ ?_
        all_goals simp [h11, h12]
    · rw [if_neg hz3] at H
      have XX := IH (out ++ [⟨c, home, num + 1 + y, f⟩]) (by simp)
      have IHx := fun e11 e12 T X h11 h12 => XX e11 e12 T X h11 h12 H
      rw [kof_snoc] at IHx
      have hs2 := subs_snoc out ⟨c, home, num + 1 + y, f⟩
      have en : encSubs [] = [] := rfl
      have en1 : encSubs ([] ++ [⟨c, home, num + 1 + y, f⟩]) = [.agg [.int .i64 c, .int .i64 home, .int .i64 (num + 1 + y), .slice (encPreds f)]] := rfl
      rcases kof_or 4 out with ⟨hk, rfl⟩ | hk
      · rw [hk, en]
        rw [en1] at IHx
        simp [-Int.natCast_add, -St.obj, -St.set, h11, h12, k1, k2, k3, hw1, hw2, hw3, hpos, hz3, -Int.not_le, -Int.not_lt, -Nat.not_le, -Nat.not_lt, ty3, ty4, ty22, ty23, ty26, ty29, ty31, ty77, hm, hl, hr, E10, n10_26, n10_10]
        refine IHx _ _ _ _ ?_ ?_
        all_goals simp [h11, h12]
      · rw [hk]
        simp [-Int.natCast_add, -List.append_assoc, -St.obj, -St.set, h11, h12, k1, k2, k3, hw1, hw2, hw3, hpos, hz3, hs1, hs2, b1, b2, -Int.not_le, -Int.not_lt, -Nat.not_le, -Nat.not_lt, ty3, ty4, ty22, ty23, ty26, ty29, ty31, ty77, hm, hl, hr, E10, n10_26, n10_10]
        refine IHx _ _ _ _ ?_ ?_
        all_goals simp [h11, h12]
set_option maxHeartbeats 8000000 in
theorem L10_10 (l : List Int) (a id : Nat) (ha : a < 549755813888) (st : St) (h : FeedOk st id) (ps : List Int) (fs : List (List Pred)) (hfs : ∀ f ∈ fs, PSm f) (hfl : fs.length = 3) (hps : ps.length < 1000) : ∀ (r j d : Nat) (c : Int) (out : List Sub) (e8 e9 e10 e11 e12 : E) (T : List (Nat × E)) (X : List (Nat × List V)) (h8 : e8.Tame) (h9 : e9.Tame) (h10 : e10.Tame) (h11 : e11.Tame) (h12 : e12.Tame), r ≤ 6 → c = 7 - r → out.length ≤ 3 * (6 - r) → j + 110 * r < 549755700000 →
    evK gS fi10 c10_10 { ps := [(0, .val (.ptr id 0)), (1, .val (.slice (intVs ps))), (4, .own 0 []), (5, .own (kof 4 out) (encSubs out)), (6, .own 1 (encPredss fs)), (7, .val (.int .i64 c)), (8, e8), (9, e9), (10, e10), (11, e11), (12, e12)], ts := T, lc := X } (setF (dd st d) id l (nA l a j)) (.blk 0 (.seq c10_50 .nil)) = some (.ret (.slice (encSubs (subsO l a ps.length fs r c j d out).1)) none, setF (dd st (subsO l a ps.length fs r c j d out).2.2) id l (nA l a (subsO l a ps.length fs r c j d out).2.1)) := by
  intro r
  have hm : fi10.marks = [1000000] := rfl
  have hl : fi10.locals = [11] := rfl
  have hr : fi10.results = [.tmp 4] := rfl
  induction r with
  | zero =>
    intro j d c out e8 e9 e10 e11 e12 T X h8 h9 h10 h11 h12 hr6 hc ho hj
    rw [show subsO l a ps.length fs 0 c j d out = (out, j, d) from rfl]
    obtain rfl : c = 7 := by omega
    have hz := frz_slice (xs := encSubs out) (flats_subs out)
    refine evK_loop c10_11 _ _ _ _ rfl ?_
    rcases kof_or 4 out with ⟨hk, rfl⟩ | hk
    · have en : encSubs [] = [] := rfl
      rw [en] at hz
      rw [hk, en]
      simp [-St.obj, -St.set, h8, h9, h10, h11, h12, hz, -Int.not_le, -Int.not_lt, -Nat.not_le, -Nat.not_lt, ty3, ty4, ty22, ty23, ty26, ty29, ty31, ty77, hm, hl, hr, E10, e10_49, n10_26, n10_10]
    · rw [hk]
      simp [-St.obj, -St.set, h8, h9, h10, h11, h12, hz, -Int.not_le, -Int.not_lt, -Nat.not_le, -Nat.not_lt, ty3, ty4, ty22, ty23, ty26, ty29, ty31, ty77, hm, hl, hr, E10, e10_49, n10_26, n10_10]
  | succ r ih =>
    intro j d c out e8 e9 e10 e11 e12 T X h8 h9 h10 h11 h12 hr6 hc ho hj
    have k1 := fun fr => k11 l a j id ((ps.length : Int) + 1) fr (dd st d) (h.dd d) ha (by omega) (by omega)
    have k2 := fun fr => k11 l a (j + 1) id 4 fr (dd st d) (h.dd d) ha (by omega) (by omega)
    have hb := fd_bound l a (j + 1) (n := 4) (by omega)
    simp only [subsO]
    have hw1 : IntKind.wrap .i64 ((ps.length : Int) + 1) = (ps.length : Int) + 1 := wrap64 (by omega) (by omega)
    have hwc : IntKind.wrap .i64 (c + 1) = c + 1 := wrap64 (by omega) (by omega)
    have hc6 : c ≤ 6 := by omega
    generalize fd l a j (ps.length + 1) = home at *
    generalize hz : fd l a (j + 1) 4 = z at *
    obtain ⟨q, rfl⟩ : ∃ q : Nat, z = (q : Int) := ⟨z.toNat, by omega⟩
    rw [Int.toNat_natCast]
    have hsa := subsI_asks l a fs c home q 0 (j + 2) d out
    have LI := fun R e11 e12 T X h11 h12 => L10_26 l a id ha st h ps fs hfs hfl c home R q (j + 2) d 0 out e11 e12 T X h11 h12 (by omega) (by omega) (by omega) (by omega)
    generalize subsI l a fs c home q 0 (j + 2) d out = I at *
    obtain ⟨out2, J, D⟩ := I
    simp only at hsa LI ⊢
    have IH := fun e8 e9 e10 e11 e12 T X h8 h9 h10 h11 h12 => ih J D (c + 1) out2 e8 e9 e10 e11 e12 T X h8 h9 h10 h11 h12 (by omega) (by omega) (by omega) (by omega)
    generalize hR : (Out.ret (V.slice (encSubs (subsO l a ps.length fs r (c + 1) J D out2).1)) none, setF (dd st (subsO l a ps.length fs r (c + 1) J D out2).2.2) id l (nA l a (subsO l a ps.length fs r (c + 1) J D out2).2.1)) = R at IH ⊢
    have H49 : ∀ e9 e11 e12 T X, e9.Tame → e11.Tame → e12.Tame → evK gS fi10 c10_49 { ps := [(0, .val (.ptr id 0)), (1, .val (.slice (intVs ps))), (4, .own 0 []), (5, .own (kof 4 out2) (encSubs out2)), (6, .own 1 (encPredss fs)), (7, .val (.int .i64 c)), (8, .val (.int .i64 home)), (9, e9), (10, .val (.int .i64 0)), (11, e11), (12, e12)], ts := T, lc := X } (setF (dd st D) id l (nA l a J)) (.loop c10_11 (.blk 0 (.seq c10_50 .nil))) = some R := by
      intro e9 e11 e12 T X h9 h11 h12
      rcases kof_or 4 out2 with ⟨hk, rfl⟩ | hk
      · have en : encSubs [] = [] := rfl
        rw [hk, en] at IH ⊢
        simp [-Int.natCast_add, -St.obj, -St.set, h9, h11, h12, hwc, -Int.not_le, -Int.not_lt, -Nat.not_le, -Nat.not_lt, ty3, ty4, ty22, ty23, ty26, ty29, ty31, ty77, hm, hl, hr, E10, e10_49, n10_26, n10_10]
        exact IH _ _ _ _ _ _ _ (tame_val _) h9 (tame_val _) h11 h12
      · rw [hk] at IH ⊢
        simp [-Int.natCast_add, -St.obj, -St.set, h9, h11, h12, hwc, -Int.not_le, -Int.not_lt, -Nat.not_le, -Nat.not_lt, ty3, ty4, ty22, ty23, ty26, ty29, ty31, ty77, hm, hl, hr, E10, e10_49, n10_26, n10_10]
        exact IH _ _ _ _ _ _ _ (tame_val _) h9 (tame_val _) h11 h12
    have LL := fun e11 e12 T X h11 h12 => LI R e11 e12 T X h11 h12 H49
    refine evK_loop c10_11 _ _ _ _ rfl ?_
    rcases kof_or 4 out with ⟨hk, rfl⟩ | hk
    · have en : encSubs [] = [] := rfl
      rw [hk, en] at LL ⊢
      simp [-Int.natCast_add, -St.obj, -St.set, h8, h9, h10, h11, h12, k1, k2, hw1, hc6, -Int.not_le, -Int.not_lt, -Nat.not_le, -Nat.not_lt, ty3, ty4, ty22, ty23, ty26, ty29, ty31, ty77, hm, hl, hr, E10, e10_49, n10_26, n10_10]
      exact LL _ _ _ _ h11 h12
    · rw [hk] at LL ⊢
      simp [-Int.natCast_add, -St.obj, -St.set, h8, h9, h10, h11, h12, k1, k2, hw1, hc6, -Int.not_le, -Int.not_lt, -Nat.not_le, -Nat.not_lt, ty3, ty4, ty22, ty23, ty26, ty29, ty31, ty77, hm, hl, hr, E10, e10_49, n10_26, n10_10]
      exact LL _ _ _ _ h11 h12
set_option maxHeartbeats 8000000 in
theorem c10 (l : List Int) (a j id : Nat) (st : St) (h : FeedOk st id) (ha : a < 549755813888) (hj : j < 549755600000) (ps : List Int) (hps : ps.length < 1000) :
    EvF gS 10 [.ptr id 0, .slice (intVs ps)] (setF st id l (nA l a j)) = some (.ret (.slice (encSubs (subsV l a j ps.length).1)) none, setF (dd st (subsV l a j ps.length).2.2) id l (nA l a (subsV l a j ps.length).2.1)) := by
  refine EvF_start fi53_eq (fun x h => by cases h) m10 ?_
  rw [st10]
  have hm : fi10.marks = [1000000] := rfl
  have hl : fi10.locals = [11] := rfl
  have hr : fi10.results = [.tmp 4] := rfl
  have k1 := fun fr => k40 l a j id fr st h ha (by omega)
  have a1 := filterV_asks l a j
  have k2 := fun fr => k40 l a (filterV l a j).2.1 id fr (dd st (filterV l a j).2.2) (h.dd _) ha (by omega)
  rw [dd_dd] at k2
  have a2 := filterV_asks l a (filterV l a j).2.1
  have q1 := filterV_ffv l a j
  have q2 := filterV_ffv l a (filterV l a j).2.1
  unfold subsV subsF
  generalize filterV l a (filterV l a j).2.1 = B at *
  generalize filterV l a j = A at *
  obtain ⟨f1, J1, D1⟩ := A
  obtain ⟨f2, J2, D2⟩ := B
  simp only at k1 k2 a1 a2 q1 q2 ⊢
  have hfs : ∀ f ∈ [f1, f2, []], PSm f := fun f hf => by
    simp at hf
    rcases hf with rfl | rfl | rfl
    · exact psm_ffv q1
    · exact psm_ffv q2
    · exact ⟨by simp, by simp⟩
  have LL := fun e8 e9 e10 e11 e12 T X h8 h9 h10 h11 h12 => L10_10 l a id ha st h ps [f1, f2, []] hfs rfl hps 6 J2 (D1 + D2) 1 [] e8 e9 e10 e11 e12 T X h8 h9 h10 h11 h12 (Nat.le_refl _) rfl (Nat.le_refl _) (by omega)
  rw [show kof 4 ([] : List Sub) = 0 from rfl, show encSubs [] = [] from rfl, show encPredss [f1, f2, []] = [.slice (encPreds f1), .slice (encPreds f2), .slice []] from rfl] at LL
  generalize hR : (Out.ret (V.slice (encSubs (subsO l a ps.length [f1, f2, []] 6 1 J2 (D1 + D2) []).1)) none, setF (dd st (subsO l a ps.length [f1, f2, []] 6 1 J2 (D1 + D2) []).2.2) id l (nA l a (subsO l a ps.length [f1, f2, []] 6 1 J2 (D1 + D2) []).2.1)) = R at LL ⊢
  simp [-St.obj, -St.set, k1, k2, -Int.not_le, -Int.not_lt, -Nat.not_le, -Nat.not_lt, ty3, ty4, ty22, ty23, ty26, ty29, ty31, ty77, hm, hl, hr, E10, e10_49, n10_26, n10_10]
  exact LL _ _ _ _ _ _ _ tame_any tame_any tame_any tame_any tame_any
theorem k10 (l : List Int) (a j id : Nat) (fr : Fr) (st : St) (h : FeedOk st id) (ha : a < 549755813888) (hj : j < 549755600000) (ps : List Int) (hps : ps.length < 1000) :
    callStep gS (EvF gS) 10 [.ptr id 0, .slice (intVs ps)] fr (setF st id l (nA l a j)) = some (.ok (.val (.slice (encSubs (subsV l a j ps.length).1))) (fr.map E.noMem) (setF (dd st (subsV l a j ps.length).2.2) id l (nA l a (subsV l a j ps.length).2.1))) := by
  unfold callStep
  simp only [show gS.ext 10 = none from rfl, fi53_eq, show fi10.pure = false from rfl, Bool.false_eq_true, if_false, c10 l a j id st h ha hj ps hps, retE]
end
end Go.Proofs.Ytdoobejjedpcgaa
/-! # Trees of brokers, in plain Lean -/
namespace Go.Ab
open Go
/-- Every entry is a broker ahead of its own. -/
def upT : Nat → List Int → Bool
  | _, [] => true
  | i, x :: l => decide (0 ≤ x) && decide (x ≤ i) && upT (i + 1) l
def rightT (p : List Int) : Bool := upT 0 p && decide ((p.length : Int) ≤ 7)
def isT (p : List Int) (b : Int) : Bool := rightT p && decide (0 ≤ b) && decide (b ≤ (p.length : Int))
structure Atom where
  a : Int
  b : Int
  br : Int
  deriving Inhabited
def Atom.cells (x : Atom) : List V := [.int .i64 x.a, .int .i64 x.b, .int .i64 x.br]
def Atom.enc (x : Atom) : V := .agg x.cells
def encAtoms (l : List Atom) : List V := l.map Atom.enc
def aheadA (x y : Atom) : Bool := if x.br = y.br then decide (x.a < y.a) || decide (x.a = y.a) && decide (x.b < y.b) else decide (x.br < y.br)
theorem upT_cons (i : Nat) (x : Int) (l : List Int) : upT i (x :: l) = (decide (0 ≤ x) && decide (x ≤ i) && upT (i + 1) l) := rfl
theorem upT_get : ∀ (l : List Int) (i k : Nat) (x : Int), upT i l = true → l[k]? = some x → 0 ≤ x ∧ x ≤ ((i + k : Nat) : Int) := by
  intro l
  induction l with
  | nil => intro i k x h hx; simp at hx
  | cons a l ih =>
    intro i k x h hx
    rw [upT_cons] at h
    simp only [Bool.and_eq_true, decide_eq_true_eq] at h
    cases k with
    | zero => simp at hx; subst hx; simpa using h.1
    | succ k =>
      have := ih (i + 1) k x h.2 (by simpa using hx)
      omega
/-- The way from a broker up to the root, itself left out (k: fuel, the broker's number at least). -/
def upF (p : List Int) : Nat → Nat → List Int
  | 0, _ => []
  | k + 1, b => if b = 0 then [] else (p.getD (b - 1) 0) :: upF p k (p.getD (b - 1) 0).toNat
def upP (p : List Int) (b : Nat) : List Int := (b : Int) :: upF p b b
theorem upF_zero (p : List Int) (k : Nat) : upF p k 0 = [] := by cases k <;> simp [upF]
theorem upF_succ (p : List Int) (k b : Nat) (x : Int) (hx : p[b]? = some x) : upF p (k + 1) (b + 1) = x :: upF p k x.toNat := by
  simp [upF, hx]
theorem encAtoms_length (l : List Atom) : (encAtoms l).length = l.length := by simp [encAtoms]
theorem encAtoms_get (l : List Atom) (i : Nat) : (encAtoms l)[i]? = (l[i]?).map Atom.enc := by simp [encAtoms]
theorem encAtoms_gE (l : List Atom) (i : Nat) (h : i < (encAtoms l).length) : (encAtoms l)[i]'h = (l[i]'(by rw [encAtoms_length] at h; exact h)).enc := by simp [encAtoms]
theorem flat_atom (v : Atom) : v.enc.flat = true := by simp [Atom.enc, Atom.cells, V.flat, flats]
theorem flats_atoms (l : List Atom) : flats (encAtoms l) = true := by
  induction l with
  | nil => rfl
  | cons x r ih => simp only [encAtoms, List.map_cons, flats, flat_atom] at ih ⊢; exact ih
attribute [simp] encAtoms_length encAtoms_get encAtoms_gE flat_atom flats_atoms Atom.enc Atom.cells
theorem sizes_atoms (l : List Atom) : sizesOk 3 (encAtoms l) = true := by
  induction l with
  | nil => rfl
  | cons x r ih => simp only [encAtoms, List.map_cons, sizesOk] at ih ⊢; rw [ih]; rfl
/-- The places of the atoms that a test takes. -/
def wayG (t : Atom → Bool) : Nat → List Atom → List Int → List Int
  | _, [], out => out
  | i, x :: r, out => wayG t (i + 1) r (if t x then out ++ [(i : Int)] else out)
def wayA (c : List Atom) (m : List Int) : List Int := wayG (fun x => hasI m x.a || hasI m x.b) 0 c []
def ownA (c : List Atom) (m : List Int) : List Int := wayG (fun x => hasI m x.a && hasI m x.b) 0 c []
def posA (l : List Atom) (n : Atom) : Nat := (l.takeWhile fun x => aheadA x n).length
def layA (l : List Atom) (n : Atom) : List Atom := l.take (posA l n) ++ [n] ++ l.drop (posA l n)
theorem posA_le : ∀ (l : List Atom) (n : Atom), posA l n ≤ l.length
  | [], _ => by simp [posA]
  | x :: r, n => by
    have := posA_le r n
    unfold posA at this ⊢
    rw [List.takeWhile_cons]
    split <;> simp; omega
theorem posA_lt : ∀ (l : List Atom) (n : Atom) (i : Nat) (x : Atom), i < posA l n → l[i]? = some x → aheadA x n = true
  | [], _, _, _, _, h => by simp at h
  | y :: r, n, i, x, hi, hx => by
    unfold posA at hi
    rw [List.takeWhile_cons] at hi
    split at hi
    · rename_i hy
      cases i with
      | zero => simp at hx; subst hx; simpa using hy
      | succ i => exact posA_lt r n i x (by unfold posA; simpa using hi) (by simpa using hx)
    · simp at hi
theorem posA_ge : ∀ (l : List Atom) (n : Atom) (x : Atom), l[posA l n]? = some x → aheadA x n = false
  | [], _, _, h => by simp at h
  | y :: r, n, x, hx => by
    unfold posA at hx
    rw [List.takeWhile_cons] at hx
    split at hx
    · rw [List.length_cons, List.getElem?_cons_succ] at hx
      exact posA_ge r n x hx
    · rename_i hy
      simp at hx; subst hx; simpa using hy
theorem atoms_take (l : List Atom) (k : Nat) : (encAtoms l).take k = encAtoms (l.take k) := by simp [encAtoms, List.map_take]
theorem atoms_drop (l : List Atom) (k : Nat) : (encAtoms l).drop k = encAtoms (l.drop k) := by simp [encAtoms, List.map_drop]
theorem atoms_append (l r : List Atom) : encAtoms l ++ encAtoms r = encAtoms (l ++ r) := by simp [encAtoms]
theorem layA_len (l : List Atom) (n : Atom) : (layA l n).length = l.length + 1 := by
  have := posA_le l n
  simp only [layA, List.length_append, List.length_take, List.length_drop, List.length_singleton]
  omega
theorem take_rev (b : List Int) (n : Nat) (x : Int) (hx : b[n]? = some x) : (b.take (n + 1)).reverse = x :: (b.take n).reverse := by
  rw [List.take_add_one, hx]; simp
theorem upF_len (p : List Int) : ∀ (k b : Nat), (upF p k b).length ≤ k
  | 0, _ => by simp [upF]
  | k + 1, b => by
    unfold upF
    split
    · simp
    · have := upF_len p k (p.getD (b - 1) 0).toNat
      simp only [List.length_cons]; omega
/-- A tree as a feed yields it: n parents more, each one ahead of its own. -/
def treeG (l : List Int) (a : Nat) : Nat → Nat → List Int → List Int
  | 0, _, acc => acc
  | n + 1, j, acc => treeG l a n (j + 1) (acc ++ [fd l a j ((acc.length : Int) + 1)])
def treeV (l : List Int) (a j : Nat) (most : Int) : List Int := treeG l a (fd l a j most).toNat (j + 1) []
theorem treeG_succ (l : List Int) (a n j : Nat) (acc : List Int) : treeG l a (n + 1) j acc = treeG l a n (j + 1) (acc ++ [fd l a j ((acc.length : Int) + 1)]) := rfl
theorem treeG_len (l : List Int) (a : Nat) : ∀ (n j : Nat) (acc : List Int), (treeG l a n j acc).length = acc.length + n
  | 0, _, acc => rfl
  | n + 1, j, acc => by rw [treeG_succ, treeG_len l a n, List.length_append, List.length_singleton]; omega
theorem upT_snoc : ∀ (p : List Int) (i : Nat) (x : Int), upT i p = true → 0 ≤ x → x ≤ ((i + p.length : Nat) : Int) → upT i (p ++ [x]) = true
  | [], i, x, _, h1, h2 => by simp [upT, h1]; simpa using h2
  | y :: p, i, x, h, h1, h2 => by
    rw [upT_cons] at h
    simp only [Bool.and_eq_true] at h
    rw [List.cons_append, upT_cons, upT_snoc p (i + 1) x h.2 h1 (by simp only [List.length_cons] at h2; omega)]
    simp [h.1.1, h.1.2] at *
theorem treeG_up (l : List Int) (a : Nat) : ∀ (n j : Nat) (acc : List Int), upT 0 acc = true → upT 0 (treeG l a n j acc) = true
  | 0, _, acc, h => h
  | n + 1, j, acc, h => by
    rw [treeG_succ]
    have hb := fd_bound l a j (n := (acc.length : Int) + 1) (by omega)
    exact treeG_up l a n _ _ (upT_snoc acc 0 _ h hb.1 (by omega))
theorem treeV_right (l : List Int) (a j : Nat) {most : Int} (h1 : 1 ≤ most) (h2 : most ≤ 8) : rightT (treeV l a j most) = true := by
  have hb := fd_bound l a j (n := most) h1
  have hl := treeG_len l a (fd l a j most).toNat (j + 1) []
  unfold rightT treeV
  rw [treeG_up l a _ _ [] rfl, hl]
  simp
  omega
/-- A subscription that may be. -/
def mayS (s : Sub) : Bool := decide (1 ≤ s.client) && decide (s.client ≤ 6) && decide (0 ≤ s.broker) && decide (s.broker ≤ 7) && decide (1 ≤ s.num) && decide (s.num ≤ 4611686018427387904) && fright s.filter
/-- Clients of both. -/
def bothI (v : List Int) : List Int → List Int → List Int
  | [], out => out
  | c :: r, out => bothI v r (if hasI v c then layI out c else out)
end Go.Ab
namespace Go.Proofs.Ytdoobejjedpcgaa
open Go Go.Ab
set_option linter.unusedVariables false
set_option linter.unusedSimpArgs false
set_option linter.unnecessarySimpa false
set_option maxRecDepth 20000
noncomputable section
variable (fr : Fr) (st : St) (k : Kt)
def fi62 : FI := { body := codeOf Try.f62, ntmps := 17, results := [.tmp 4], pers := [0, 1, 4, 6, 7, 8, 9], locals := [], pure := true, marks := [] }
theorem fi218_eq : gS.fn 62 = some fi62 := by kernel_rfl
theorem st62 (a0 a1 : V) : startFr fi62 [a0, a1] = { ps := [(0, .val a0), (1, .val a1), (4, .any), (6, .any), (7, .any), (8, .any), (9, .any)], ts := [], lc := [] } := rfl
def b62 : Code := mini (codeOf Try.f62)
def c62_20 : Code := .seq (codeN b62 9829) .ret
def c62_19 : Code := .cond (.tmp 15) c62_20 .skip
def c62_17 : Code := .seq (codeN b62 2661) c62_19
def c62_15 : Code := .seq (codeN b62 1125) c62_17
def c62_24 : Code := codeN b62 485
def c62_13 : Code := .seq (.block 1 c62_15) c62_24
def c62_9 : Code := .seq (.cond (.tmp 10) .skip (.exit 0)) c62_13
def c62_7 : Code := .seq (codeN b62 69) c62_9
def c62_6 : Code := .loop c62_7
def c62_5 : Code := .block 0 c62_6
def c62_3 : Code := .seq (codeN b62 9) c62_5
def c62_25 : Code := .seq (codeN b62 11) .ret
def c62_2 : Code := .seq c62_3 c62_25
def c62_0 : Code := .seq (codeN b62 2) c62_2
theorem E62 : evK gS fi62 c62_20 fr st k = opsR gS fi62 [op1 4 (.assign (.const (.bool true))) 4] fr st (.seq .ret k) ∧
 evK gS fi62 c62_19 fr st k = condK gS fi62 (fr.op (.tmp 15)).bool? c62_20 .skip fr st k ∧
 (evK gS fi62 c62_17 fr st k = opsR gS fi62 [mv 13 6 3,
 mv 14 1 3,
 bop 15 .eql 3 13 14 3 4] fr st (.seq c62_19 k)) ∧
 (evK gS fi62 c62_15 fr st k = opsR gS fi62 [ixa 11 22 7 9 0,
 ld 12 3 11 3,
 asn 6 12 3] fr st (.seq c62_17 k)) ∧
 (evK gS fi62 c62_24 fr st k = opsR gS fi62 [op1 16 (.binOp .add 3 (.tmp 9) (.const (.int .i64 1)) 3) 3,
 mv 9 16 3] fr st k) ∧
 evK gS fi62 c62_13 fr st k = evK gS fi62 c62_15 fr st (.blk 1 (.seq c62_24 k)) ∧
 evK gS fi62 c62_9 fr st k = condK gS fi62 (fr.op (.tmp 10)).bool? .skip (.exit 0) fr st (.seq c62_13 k) ∧
 evK gS fi62 c62_7 fr st k = opsR gS fi62 [bop 10 .lss 3 9 8 3 0] fr st (.seq c62_9 k) ∧
 evK gS fi62 c62_5 fr st k = evK gS fi62 c62_6 fr st (.blk 0 k) ∧
 (evK gS fi62 c62_3 fr st k = opsR gS fi62 [mv 7 0 22,
 len1 8 7 22 3,
 op1 9 (.move (.const (.int .i64 0))) 3] fr st (.seq c62_5 k)) ∧
 evK gS fi62 c62_25 fr st k = opsR gS fi62 [op1 4 (.assign (.const (.bool false))) 4] fr st (.seq .ret k) ∧
 evK gS fi62 c62_2 fr st k = evK gS fi62 c62_3 fr st (.seq c62_25 k) ∧
 evK gS fi62 c62_0 fr st k = opsR gS fi62 [op1 4 (.assign (.const (.bool false))) 4] fr st (.seq c62_2 k) := ⟨evK_rs 5 rfl (by kernel_rfl), rfl, evK_rs 4 rfl (by kernel_rfl), evK_rs 3 rfl (by kernel_rfl), evK_r 6 (by kernel_rfl), rfl, rfl, evK_rs 2 rfl (by kernel_rfl), rfl, evK_rs 1 rfl (by kernel_rfl), evK_rs 7 rfl (by kernel_rfl), rfl, evK_rs 0 rfl (by kernel_rfl)⟩
theorem m62 : mini fi62.body = c62_0 := by kernel_rfl
theorem n62_6 (fr : Fr) (st : St) (k : Kt) : nextK gS fi62 (.loop c62_7 k) .normal fr st = evK gS fi62 c62_6 fr st k := rfl
set_option maxHeartbeats 4000000 in
theorem L62_6 (l : List Int) (n0 : Int) (h_l : l.length < 4611686018427387904) (st : St) : ∀ (n i : Nat) (j : Int)  (e0 e6 : E) (T : List (Nat × E)) (X : List (Nat × List V)) (ht0 : e0.Tame) (ht6 : e6.Tame) , j = (i : Int) → i ≤ (l).length → (l).length - i = n →
    evK gS fi62 c62_6 { ps := [(0, e0), (1, .val (.int .i64 n0)), (4, .val (.bool false)), (6, e6), (7, .val (.slice (intVs l))), (8, .val (.int .i64 l.length)), (9, .val (.int .i64 j))], ts := T, lc := X } st (.blk 0 (.seq c62_25 .nil)) = some ((.ret (.bool (hasI (l.drop i) n0)) none), st) := by
  intro n
  have hm : fi62.marks = [] := rfl
  have hl : fi62.locals = [] := rfl
  have hr : fi62.results = [.tmp 4] := rfl
  induction n with
  | zero =>
    intro i j  e0 e6 T X ht0 ht6  hj hi hn
    obtain rfl : i = (l).length := by omega
    subst hj
    refine evK_loop c62_7 _ st _ _ rfl ?_
    simp (config := { contextual := true, maxSteps := 10000000, maxDischargeDepth := 6 }) [-Int.not_le, -Int.not_lt, -Nat.not_le, -Nat.not_lt, ty3, ty4, ty22, hm, hl, hr, E62, n62_6, ht0, ht6]
    all_goals try simp (config := { contextual := true }) [-Int.not_le, -Int.not_lt, -Nat.not_le, -Nat.not_lt, hasI]
    all_goals first | done | grind | omega | (trace_state; fail)
  | succ n ih =>
    intro i j  e0 e6 T X ht0 ht6  hj hi hn
    subst hj
    obtain ⟨x, hx⟩ : ∃ x, (l)[i]? = some x := ⟨(l)[i]'(by omega), List.getElem?_eq_getElem (by omega)⟩
    have hd := drop_get hx
    have hlt : (i : Int) < ((l).length : Int) := by omega
    have hlt2 : i < (l).length := by omega
    have hxe : (l)[i]'hlt2 = x := by rw [List.getElem?_eq_getElem hlt2] at hx; exact Option.some.inj hx
    have hw : IntKind.wrap .i64 ((i : Int) + 1) = (i : Int) + 1 := wrap64 (by omega) (by omega)
    have IH := fun e0 e6 T X ht0 ht6 => ih (i + 1) ((i : Int) + 1) e0 e6 T X ht0 ht6 rfl (by omega) (by omega)
    refine evK_loop c62_7 _ st _ _ rfl ?_
    simp (config := { contextual := true, maxSteps := 10000000, maxDischargeDepth := 6 }) [-Int.not_le, -Int.not_lt, -Nat.not_le, -Nat.not_lt, ty3, ty4, ty22, hm, hl, hr, E62, n62_6, ht0, ht6, hx, hxe, hd, hlt, hlt2, hw, IH]
    all_goals try simp (config := { contextual := true }) [-Int.not_le, -Int.not_lt, -Nat.not_le, -Nat.not_lt, hasI]
    all_goals first | done | grind | omega | (trace_state; fail)
set_option maxHeartbeats 4000000 in
theorem c62 (l : List Int) (n0 : Int)  (h_l : l.length < 4611686018427387904) (st : St) : EvF gS 62 [.slice (intVs l), .int .i64 n0] st = some (.ret (.bool (hasI l n0)) none, st) := by
  refine EvF_start fi218_eq (fun x h => by cases h) m62 ?_
  rw [st62]
  have hm : fi62.marks = [] := rfl
  have hl : fi62.locals = [] := rfl
  have hr : fi62.results = [.tmp 4] := rfl
  simp (config := { contextual := true, maxSteps := 10000000, maxDischargeDepth := 6 }) [-Int.not_le, -Int.not_lt, -Nat.not_le, -Nat.not_lt, ty3, ty4, ty22, hm, hl, hr, E62, n62_6, (fun e0 e6 T X ht0 ht6 => L62_6 l n0 h_l st _ 0 0  e0 e6 T X ht0 ht6 rfl (Nat.zero_le _) rfl), h_l]
  all_goals try simp (config := { contextual := true }) [-Int.not_le, -Int.not_lt, -Nat.not_le, -Nat.not_lt, hasI]
  all_goals first | done | grind | omega | (trace_state; fail)
theorem k62 (l : List Int) (n0 : Int)  (h_l : l.length < 4611686018427387904) (fr : Fr) (st : St) : callStep gS (EvF gS) 62 [.slice (intVs l), .int .i64 n0] fr st = some (.ok (retE none (.bool (hasI l n0))) fr st) :=
  call_pure rfl fi218_eq rfl (fun st => c62 l n0 h_l st) (by simp)
def fi32 : FI := { body := codeOf Try.f32, ntmps := 18, results := [.tmp 4], pers := [0, 1, 4, 5], locals := [], pure := true, marks := [] }
theorem fi222_eq : gS.fn 32 = some fi32 := by kernel_rfl
theorem st32 (a0 a1 : V) : startFr fi32 [a0, a1] = { ps := [(0, .val a0), (1, .val a1), (4, .any), (5, .any)], ts := [], lc := [] } := rfl
def b32 : Code := mini (codeOf Try.f32)
def c32_10 : Code := .cond (.tmp 9) .skip (.exit 0)
def c32_8 : Code := .seq (codeN b32 133) c32_10
def c32_18 : Code := .seq (codeN b32 2341) .ret
def c32_17 : Code := .cond (.tmp 17) c32_18 .skip
def c32_15 : Code := .seq (codeN b32 549) c32_17
def c32_22 : Code := codeN b32 229
def c32_13 : Code := .seq (.block 1 c32_15) c32_22
def c32_7 : Code := .seq c32_8 c32_13
def c32_6 : Code := .loop c32_7
def c32_5 : Code := .block 0 c32_6
def c32_3 : Code := .seq (codeN b32 9) c32_5
def c32_23 : Code := .seq (codeN b32 11) .ret
def c32_2 : Code := .seq c32_3 c32_23
def c32_0 : Code := .seq (codeN b32 2) c32_2
theorem E32 : evK gS fi32 c32_10 fr st k = condK gS fi32 (fr.op (.tmp 9)).bool? .skip (.exit 0) fr st k ∧
 (evK gS fi32 c32_8 fr st k = opsR gS fi32 [mv 6 5 3,
 mv 7 0 22,
 len1 8 7 22 3,
 bop 9 .lss 3 6 8 3 4] fr st (.seq c32_10 k)) ∧
 evK gS fi32 c32_18 fr st k = opsR gS fi32 [op1 4 (.assign (.const (.bool true))) 4] fr st (.seq .ret k) ∧
 evK gS fi32 c32_17 fr st k = condK gS fi32 (fr.op (.tmp 17)).bool? c32_18 .skip fr st k ∧
 (evK gS fi32 c32_15 fr st k = opsR gS fi32 [mv 12 0 22,
 mv 13 5 3,
 ixa 14 22 12 13 0,
 ld 15 3 14 3,
 mv 16 1 3,
 bop 17 .eql 3 15 16 3 4] fr st (.seq c32_17 k)) ∧
 (evK gS fi32 c32_22 fr st k = opsR gS fi32 [mv 10 5 3,
 op1 11 (.binOp .add 3 (.tmp 10) (.const (.int .i64 1)) 3) 3,
 asn 5 11 3] fr st k) ∧
 evK gS fi32 c32_13 fr st k = evK gS fi32 c32_15 fr st (.blk 1 (.seq c32_22 k)) ∧
 evK gS fi32 c32_7 fr st k = evK gS fi32 c32_8 fr st (.seq c32_13 k) ∧
 evK gS fi32 c32_5 fr st k = evK gS fi32 c32_6 fr st (.blk 0 k) ∧
 evK gS fi32 c32_3 fr st k = opsR gS fi32 [op1 5 (.assign (.const (.int .i64 0))) 3] fr st (.seq c32_5 k) ∧
 evK gS fi32 c32_23 fr st k = opsR gS fi32 [op1 4 (.assign (.const (.bool false))) 4] fr st (.seq .ret k) ∧
 evK gS fi32 c32_2 fr st k = evK gS fi32 c32_3 fr st (.seq c32_23 k) ∧
 evK gS fi32 c32_0 fr st k = opsR gS fi32 [op1 4 (.assign (.const (.bool false))) 4] fr st (.seq c32_2 k) := ⟨rfl, evK_rs 2 rfl (by kernel_rfl), evK_rs 5 rfl (by kernel_rfl), rfl, evK_rs 4 rfl (by kernel_rfl), evK_r 3 (by kernel_rfl), rfl, rfl, rfl, evK_rs 1 rfl (by kernel_rfl), evK_rs 6 rfl (by kernel_rfl), rfl, evK_rs 0 rfl (by kernel_rfl)⟩
theorem m32 : mini fi32.body = c32_0 := by kernel_rfl
theorem n32_6 (fr : Fr) (st : St) (k : Kt) : nextK gS fi32 (.loop c32_7 k) .normal fr st = evK gS fi32 c32_6 fr st k := rfl
set_option maxHeartbeats 4000000 in
theorem L32_6 (l : List Int) (n0 : Int) (h_l : l.length < 4611686018427387904) (st : St) : ∀ (n i : Nat) (j : Int)  (T : List (Nat × E)) (X : List (Nat × List V))  , j = (i : Int) → i ≤ (l).length → (l).length - i = n →
    evK gS fi32 c32_6 { ps := [(0, .val (.slice (intVs l))), (1, .val (.int .i64 n0)), (4, .val (.bool false)), (5, .val (.int .i64 j))], ts := T, lc := X } st (.blk 0 (.seq c32_23 .nil)) = some ((.ret (.bool (hasI (l.drop i) n0)) none), st) := by
  intro n
  have hm : fi32.marks = [] := rfl
  have hl : fi32.locals = [] := rfl
  have hr : fi32.results = [.tmp 4] := rfl
  induction n with
  | zero =>
    intro i j   T X   hj hi hn
    obtain rfl : i = (l).length := by omega
    subst hj
    refine evK_loop c32_7 _ st _ _ rfl ?_
    simp (config := { contextual := true, maxSteps := 10000000, maxDischargeDepth := 6 }) [-Int.not_le, -Int.not_lt, -Nat.not_le, -Nat.not_lt, ty3, ty4, ty22, hm, hl, hr, E32, n32_6]
    all_goals try simp (config := { contextual := true }) [-Int.not_le, -Int.not_lt, -Nat.not_le, -Nat.not_lt, hasI]
    all_goals first | done | grind | omega | (trace_state; fail)
  | succ n ih =>
    intro i j   T X   hj hi hn
    subst hj
    obtain ⟨x, hx⟩ : ∃ x, (l)[i]? = some x := ⟨(l)[i]'(by omega), List.getElem?_eq_getElem (by omega)⟩
    have hd := drop_get hx
    have hlt : (i : Int) < ((l).length : Int) := by omega
    have hlt2 : i < (l).length := by omega
    have hxe : (l)[i]'hlt2 = x := by rw [List.getElem?_eq_getElem hlt2] at hx; exact Option.some.inj hx
    have hw : IntKind.wrap .i64 ((i : Int) + 1) = (i : Int) + 1 := wrap64 (by omega) (by omega)
    have IH := fun T X => ih (i + 1) ((i : Int) + 1) T X rfl (by omega) (by omega)
    refine evK_loop c32_7 _ st _ _ rfl ?_
    simp (config := { contextual := true, maxSteps := 10000000, maxDischargeDepth := 6 }) [-Int.not_le, -Int.not_lt, -Nat.not_le, -Nat.not_lt, ty3, ty4, ty22, hm, hl, hr, E32, n32_6, hx, hxe, hd, hlt, hlt2, hw, IH]
    all_goals try simp (config := { contextual := true }) [-Int.not_le, -Int.not_lt, -Nat.not_le, -Nat.not_lt, hasI]
    all_goals first | done | grind | omega | (trace_state; fail)
set_option maxHeartbeats 4000000 in
theorem c32 (l : List Int) (n0 : Int)  (h_l : l.length < 4611686018427387904) (st : St) : EvF gS 32 [.slice (intVs l), .int .i64 n0] st = some (.ret (.bool (hasI l n0)) none, st) := by
  refine EvF_start fi222_eq (fun x h => by cases h) m32 ?_
  rw [st32]
  have hm : fi32.marks = [] := rfl
  have hl : fi32.locals = [] := rfl
  have hr : fi32.results = [.tmp 4] := rfl
  simp (config := { contextual := true, maxSteps := 10000000, maxDischargeDepth := 6 }) [-Int.not_le, -Int.not_lt, -Nat.not_le, -Nat.not_lt, ty3, ty4, ty22, hm, hl, hr, E32, n32_6, (fun T X => L32_6 l n0 h_l st _ 0 0  T X rfl (Nat.zero_le _) rfl), h_l]
  all_goals try simp (config := { contextual := true }) [-Int.not_le, -Int.not_lt, -Nat.not_le, -Nat.not_lt, hasI]
  all_goals first | done | grind | omega | (trace_state; fail)
theorem k32 (l : List Int) (n0 : Int)  (h_l : l.length < 4611686018427387904) (fr : Fr) (st : St) : callStep gS (EvF gS) 32 [.slice (intVs l), .int .i64 n0] fr st = some (.ok (retE none (.bool (hasI l n0))) fr st) :=
  call_pure rfl fi222_eq rfl (fun st => c32 l n0 h_l st) (by simp)
theorem x32 : gS.ext 32 = none := rfl
theorem p32 : fi32.pure = true := rfl
def fi88 : FI := { body := codeOf Try.f88, ntmps := 23, results := [.tmp 2], pers := [0, 2, 3, 4, 5, 6, 7], locals := [], pure := true, marks := [] }
theorem fi201_eq : gS.fn 88 = some fi88 := by kernel_rfl
theorem st88 (a0 : V) : startFr fi88 [a0] = { ps := [(0, .val a0), (2, .any), (3, .any), (4, .any), (5, .any), (6, .any), (7, .any)], ts := [], lc := [] } := rfl
def b88 : Code := mini (codeOf Try.f88)
def c88_20 : Code := .seq (codeN b88 9829) .ret
def c88_19 : Code := .cond (.tmp 18) c88_20 .skip
def c88_17 : Code := .seq (codeN b88 2661) c88_19
def c88_15 : Code := .seq (codeN b88 1125) c88_17
def c88_24 : Code := codeN b88 485
def c88_13 : Code := .seq (.block 1 c88_15) c88_24
def c88_9 : Code := .seq (.cond (.tmp 8) .skip (.exit 0)) c88_13
def c88_7 : Code := .seq (codeN b88 69) c88_9
def c88_6 : Code := .loop c88_7
def c88_5 : Code := .block 0 c88_6
def c88_3 : Code := .seq (codeN b88 9) c88_5
def c88_25 : Code := .seq (codeN b88 11) .ret
def c88_2 : Code := .seq c88_3 c88_25
def c88_0 : Code := .seq (codeN b88 2) c88_2
theorem E88 : evK gS fi88 c88_20 fr st k = opsR gS fi88 [op1 2 (.assign (.const (.bool false))) 4] fr st (.seq .ret k) ∧
 evK gS fi88 c88_19 fr st k = condK gS fi88 (fr.op (.tmp 18)).bool? c88_20 .skip fr st k ∧
 (evK gS fi88 c88_17 fr st k = opsR gS fi88 [mv 12 4 3,
 op1 13 (.binOp .lss 3 (.tmp 12) (.const (.int .i64 0)) 3) 4,
 mv 14 13 4,
 mk (some 15) (.move (.tmp 4)) 3 (some (2, false)),
 mk (some 16) (.move (.tmp 3)) 3 (some (2, false)),
 mk (some 17) (.binOp .gtr 3 (.tmp 15) (.tmp 16) 3) 4 (some (2, false)),
 op1 18 (.pick (.tmp 14) (.const (.bool true)) (.tmp 17)) 4] fr st (.seq c88_19 k)) ∧
 (evK gS fi88 c88_15 fr st k = opsR gS fi88 [mv 9 7 3,
 ixa 10 22 5 7 0,
 ld 11 3 10 3,
 asn 3 9 3,
 asn 4 11 3] fr st (.seq c88_17 k)) ∧
 (evK gS fi88 c88_24 fr st k = opsR gS fi88 [op1 19 (.binOp .add 3 (.tmp 7) (.const (.int .i64 1)) 3) 3,
 mv 7 19 3] fr st k) ∧
 evK gS fi88 c88_13 fr st k = evK gS fi88 c88_15 fr st (.blk 1 (.seq c88_24 k)) ∧
 evK gS fi88 c88_9 fr st k = condK gS fi88 (fr.op (.tmp 8)).bool? .skip (.exit 0) fr st (.seq c88_13 k) ∧
 evK gS fi88 c88_7 fr st k = opsR gS fi88 [bop 8 .lss 3 7 6 3 0] fr st (.seq c88_9 k) ∧
 evK gS fi88 c88_5 fr st k = evK gS fi88 c88_6 fr st (.blk 0 k) ∧
 (evK gS fi88 c88_3 fr st k = opsR gS fi88 [mv 5 0 22,
 len1 6 5 22 3,
 op1 7 (.move (.const (.int .i64 0))) 3] fr st (.seq c88_5 k)) ∧
 (evK gS fi88 c88_25 fr st k = opsR gS fi88 [mv 20 0 22,
 len1 21 20 22 3,
 op1 22 (.binOp .leq 3 (.tmp 21) (.const (.int .i64 7)) 3) 4,
 asn 2 22 4] fr st (.seq .ret k)) ∧
 evK gS fi88 c88_2 fr st k = evK gS fi88 c88_3 fr st (.seq c88_25 k) ∧
 evK gS fi88 c88_0 fr st k = opsR gS fi88 [op1 2 (.assign (.const (.bool false))) 4] fr st (.seq c88_2 k) := ⟨evK_rs 5 rfl (by kernel_rfl), rfl, evK_rs 4 rfl (by kernel_rfl), evK_rs 3 rfl (by kernel_rfl), evK_r 6 (by kernel_rfl), rfl, rfl, evK_rs 2 rfl (by kernel_rfl), rfl, evK_rs 1 rfl (by kernel_rfl), evK_rs 7 rfl (by kernel_rfl), rfl, evK_rs 0 rfl (by kernel_rfl)⟩
theorem m88 : mini fi88.body = c88_0 := by kernel_rfl
theorem n88_6 (fr : Fr) (st : St) (k : Kt) : nextK gS fi88 (.loop c88_7 k) .normal fr st = evK gS fi88 c88_6 fr st k := rfl
set_option maxHeartbeats 4000000 in
theorem L88_6 (l : List Int) (h_l : l.length < 4611686018427387904) (st : St) : ∀ (n i : Nat) (j : Int)  (e3 e4 : E) (T : List (Nat × E)) (X : List (Nat × List V)) (ht3 : e3.Tame) (ht4 : e4.Tame) , j = (i : Int) → i ≤ (l).length → (l).length - i = n →
    evK gS fi88 c88_6 { ps := [(0, .val (.slice (intVs l))), (2, .val (.bool false)), (3, e3), (4, e4), (5, .val (.slice (intVs l))), (6, .val (.int .i64 l.length)), (7, .val (.int .i64 j))], ts := T, lc := X } st (.blk 0 (.seq c88_25 .nil)) = some ((.ret (.bool (upT i (l.drop i) && decide ((l.length : Int) ≤ 7))) none), st) := by
  intro n
  have hm : fi88.marks = [] := rfl
  have hl : fi88.locals = [] := rfl
  have hr : fi88.results = [.tmp 2] := rfl
  induction n with
  | zero =>
    intro i j  e3 e4 T X ht3 ht4  hj hi hn
    obtain rfl : i = (l).length := by omega
    subst hj
    refine evK_loop c88_7 _ st _ _ rfl ?_
    simp (config := { contextual := true, maxSteps := 10000000, maxDischargeDepth := 6 }) [-Int.not_le, -Int.not_lt, -Nat.not_le, -Nat.not_lt, ty3, ty4, ty22, hm, hl, hr, E88, n88_6, ht3, ht4]
    all_goals try simp (config := { contextual := true }) [-Int.not_le, -Int.not_lt, -Nat.not_le, -Nat.not_lt, upT_cons, upT]
    all_goals first | done | grind | omega | (trace_state; fail)
  | succ n ih =>
    intro i j  e3 e4 T X ht3 ht4  hj hi hn
    subst hj
    obtain ⟨x, hx⟩ : ∃ x, (l)[i]? = some x := ⟨(l)[i]'(by omega), List.getElem?_eq_getElem (by omega)⟩
    have hd := drop_get hx
    have hlt : (i : Int) < ((l).length : Int) := by omega
    have hlt2 : i < (l).length := by omega
    have hxe : (l)[i]'hlt2 = x := by rw [List.getElem?_eq_getElem hlt2] at hx; exact Option.some.inj hx
    have hw : IntKind.wrap .i64 ((i : Int) + 1) = (i : Int) + 1 := wrap64 (by omega) (by omega)
    have IH := fun e3 e4 T X ht3 ht4 => ih (i + 1) ((i : Int) + 1) e3 e4 T X ht3 ht4 rfl (by omega) (by omega)
    refine evK_loop c88_7 _ st _ _ rfl ?_
    simp (config := { contextual := true, maxSteps := 10000000, maxDischargeDepth := 6 }) [-Int.not_le, -Int.not_lt, -Nat.not_le, -Nat.not_lt, ty3, ty4, ty22, hm, hl, hr, E88, n88_6, ht3, ht4, hx, hxe, hd, hlt, hlt2, hw, IH]
    all_goals try simp (config := { contextual := true }) [-Int.not_le, -Int.not_lt, -Nat.not_le, -Nat.not_lt, upT_cons, upT]
    all_goals first | done | grind | omega | (trace_state; fail)
set_option maxHeartbeats 4000000 in
theorem c88 (l : List Int)  (h_l : l.length < 4611686018427387904) (st : St) : EvF gS 88 [.slice (intVs l)] st = some (.ret (.bool (rightT l)) none, st) := by
  refine EvF_start fi201_eq (fun x h => by cases h) m88 ?_
  rw [st88]
  have hm : fi88.marks = [] := rfl
  have hl : fi88.locals = [] := rfl
  have hr : fi88.results = [.tmp 2] := rfl
  simp (config := { contextual := true, maxSteps := 10000000, maxDischargeDepth := 6 }) [-Int.not_le, -Int.not_lt, -Nat.not_le, -Nat.not_lt, ty3, ty4, ty22, hm, hl, hr, E88, n88_6, (fun e3 e4 T X ht3 ht4 => L88_6 l h_l st _ 0 0  e3 e4 T X ht3 ht4 rfl (Nat.zero_le _) rfl), h_l]
  all_goals try simp (config := { contextual := true }) [-Int.not_le, -Int.not_lt, -Nat.not_le, -Nat.not_lt, rightT]
  all_goals first | done | grind | omega | (trace_state; fail)
theorem k88 (l : List Int)  (h_l : l.length < 4611686018427387904) (fr : Fr) (st : St) : callStep gS (EvF gS) 88 [.slice (intVs l)] fr st = some (.ok (retE none (.bool (rightT l))) fr st) :=
  call_pure rfl fi201_eq rfl (fun st => c88 l h_l st) (by simp)
def fi72 : FI := { body := codeOf Try.f72, ntmps := 17, results := [.tmp 4], pers := [0, 1, 4], locals := [], pure := true, marks := [] }
theorem fi202_eq : gS.fn 72 = some fi72 := by kernel_rfl
theorem st72 (a0 a1 : V) : startFr fi72 [a0, a1] = { ps := [(0, .val a0), (1, .val a1), (4, .any)], ts := [], lc := [] } := rfl
def b72 : Code := mini (codeOf Try.f72)
def c72_2 : Code := .seq (codeN b72 5) .ret
theorem e72_2 : evK gS fi72 c72_2 fr st k = opsR gS fi72 [mv 5 0 22,
 cal 6 88 [(.tmp 5)] [22] 4,
 mv 7 6 4,
 mk (some 8) (.move (.tmp 1)) 3 (some (2, true)),
 mk (some 9) (.binOp .geq 3 (.tmp 8) (.const (.int .i64 0)) 3) 4 (some (2, true)),
 op1 10 (.pick (.tmp 7) (.tmp 9) (.const (.bool false))) 4,
 mv 11 10 4,
 mk (some 12) (.move (.tmp 1)) 3 (some (6, true)),
 mk (some 13) (.move (.tmp 0)) 22 (some (6, true)),
 mk (some 14) (.call { callee := (.builtin .len), args := #[(.tmp 13)], argTypes := #[22] }) 3 (some (6, true)),
 mk (some 15) (.binOp .leq 3 (.tmp 12) (.tmp 14) 3) 4 (some (6, true)),
 op1 16 (.pick (.tmp 11) (.tmp 15) (.const (.bool false))) 4,
 asn 4 16 4] fr st (.seq .ret k) := evK_rs 1 rfl (by kernel_rfl)
def c72_0 : Code := .seq (codeN b72 2) c72_2
theorem e72_0 : evK gS fi72 c72_0 fr st k = opsR gS fi72 [op1 4 (.assign (.const (.bool false))) 4] fr st (.seq c72_2 k) := evK_rs 0 rfl (by kernel_rfl)
theorem m72 : mini fi72.body = c72_0 := by kernel_rfl
set_option maxHeartbeats 4000000 in
theorem c72 (l : List Int) (b : Int)  (h_l : l.length < 4611686018427387904) (st : St) : EvF gS 72 [.slice (intVs l), .int .i64 b] st = some (.ret (.bool (isT l b)) none, st) := by
  refine EvF_start fi202_eq (fun x h => by cases h) m72 ?_
  rw [st72]
  have hm : fi72.marks = [] := rfl
  have hl : fi72.locals = [] := rfl
  have hr : fi72.results = [.tmp 4] := rfl
  simp (config := { contextual := true, maxSteps := 10000000, maxDischargeDepth := 6 }) [-Int.not_le, -Int.not_lt, -Nat.not_le, -Nat.not_lt, ty3, ty4, ty22, hm, hl, hr, k88, e72_2, e72_0, h_l]
  all_goals try simp (config := { contextual := true }) [-Int.not_le, -Int.not_lt, -Nat.not_le, -Nat.not_lt, isT]
  all_goals first | done | grind | omega | (trace_state; fail)
theorem k72 (l : List Int) (b : Int)  (h_l : l.length < 4611686018427387904) (fr : Fr) (st : St) : callStep gS (EvF gS) 72 [.slice (intVs l), .int .i64 b] fr st = some (.ok (retE none (.bool (isT l b))) fr st) :=
  call_pure rfl fi202_eq rfl (fun st => c72 l b h_l st) (by simp)
def fi90 : FI := { body := codeOf Try.f90, ntmps := 34, results := [.tmp 4], pers := [0, 1, 2, 3, 4], locals := [2, 3], pure := true, marks := [] }
theorem fi216_eq : gS.fn 90 = some fi90 := by kernel_rfl
theorem st90 (a0 a1 : V) : startFr fi90 [a0, a1] = { ps := [(0, .val a0), (1, .val a1), (2, .any), (3, .any), (4, .any)], ts := [], lc := [] } := rfl
def b90 : Code := mini (codeOf Try.f90)
def c90_6 : Code := .seq (codeN b90 37) .ret
def c90_5 : Code := .cond (.tmp 9) c90_6 .skip
def c90_3 : Code := .seq (codeN b90 9) c90_5
def c90_10 : Code := .seq (codeN b90 11) .ret
def c90_2 : Code := .seq c90_3 c90_10
def c90_0 : Code := .seq (codeN b90 2) c90_2
theorem E90 : (evK gS fi90 c90_6 fr st k = opsR gS fi90 [op1 10 (.fieldAddr 59 (.tmp 2) 2) 0,
 ld 11 3 10 3,
 op1 12 (.fieldAddr 59 (.tmp 3) 2) 0,
 ld 13 3 12 3,
 bop 14 .lss 3 11 13 3 4,
 asn 4 14 4] fr st (.seq .ret k)) ∧
 evK gS fi90 c90_5 fr st k = condK gS fi90 (fr.op (.tmp 9)).bool? c90_6 .skip fr st k ∧
 (evK gS fi90 c90_3 fr st k = opsR gS fi90 [op1 5 (.fieldAddr 59 (.tmp 2) 2) 0,
 ld 6 3 5 3,
 op1 7 (.fieldAddr 59 (.tmp 3) 2) 0,
 ld 8 3 7 3,
 bop 9 .neq 3 6 8 3 4] fr st (.seq c90_5 k)) ∧
 (evK gS fi90 c90_10 fr st k = opsR gS fi90 [op1 15 (.fieldAddr 59 (.tmp 2) 0) 0,
 ld 16 3 15 3,
 op1 17 (.fieldAddr 59 (.tmp 3) 0) 0,
 ld 18 3 17 3,
 bop 19 .lss 3 16 18 3 4,
 mv 20 19 4,
 mk (some 21) (.fieldAddr 59 (.tmp 2) 0) 0 (some (5, false)),
 mk (some 22) (.load 3 (.tmp 21)) 3 (some (5, false)),
 mk (some 23) (.fieldAddr 59 (.tmp 3) 0) 0 (some (5, false)),
 mk (some 24) (.load 3 (.tmp 23)) 3 (some (5, false)),
 mk (some 25) (.binOp .eql 3 (.tmp 22) (.tmp 24) 3) 4 (some (5, false)),
 mk (some 26) (.move (.tmp 25)) 4 (some (5, false)),
 mk (some 27) (.fieldAddr 59 (.tmp 2) 1) 0 (some (11, true)),
 mk (some 28) (.load 3 (.tmp 27)) 3 (some (11, true)),
 mk (some 29) (.fieldAddr 59 (.tmp 3) 1) 0 (some (11, true)),
 mk (some 30) (.load 3 (.tmp 29)) 3 (some (11, true)),
 mk (some 31) (.binOp .lss 3 (.tmp 28) (.tmp 30) 3) 4 (some (11, true)),
 mk (some 32) (.pick (.tmp 26) (.tmp 31) (.const (.bool false))) 4 (some (5, false)),
 op1 33 (.pick (.tmp 20) (.const (.bool true)) (.tmp 32)) 4,
 asn 4 33 4] fr st (.seq .ret k)) ∧
 evK gS fi90 c90_2 fr st k = evK gS fi90 c90_3 fr st (.seq c90_10 k) ∧
 (evK gS fi90 c90_0 fr st k = opsR gS fi90 [op1 2 (.box 59 (.tmp 0)) 0,
 op1 3 (.box 59 (.tmp 1)) 0,
 op1 4 (.assign (.const (.bool false))) 4] fr st (.seq c90_2 k)) := ⟨evK_rs 2 rfl (by kernel_rfl), rfl, evK_rs 1 rfl (by kernel_rfl), evK_rs 3 rfl (by kernel_rfl), rfl, evK_rs 0 rfl (by kernel_rfl)⟩
theorem m90 : mini fi90.body = c90_0 := by kernel_rfl
set_option maxHeartbeats 4000000 in
theorem c90 (x : Atom) (y : Atom)  (st : St) : EvF gS 90 [x.enc, y.enc] st = some (.ret (.bool (aheadA x y)) none, st) := by
  refine EvF_start fi216_eq (fun x h => by cases h) m90 ?_
  rw [st90]
  have hm : fi90.marks = [] := rfl
  have hl : fi90.locals = [2, 3] := rfl
  have hr : fi90.results = [.tmp 4] := rfl
  simp (config := { contextual := true, maxSteps := 10000000, maxDischargeDepth := 6 }) [-Int.not_le, -Int.not_lt, -Nat.not_le, -Nat.not_lt, ty3, ty4, ty59, eq59, hm, hl, hr, E90]
  all_goals try simp (config := { contextual := true }) [-Int.not_le, -Int.not_lt, -Nat.not_le, -Nat.not_lt, aheadA]
  all_goals first | done | grind | omega | (trace_state; fail)
theorem k90 (x_a : Int) (x_b : Int) (x_r : Int) (y_a : Int) (y_b : Int) (y_r : Int)  (fr : Fr) (st : St) : callStep gS (EvF gS) 90 [.agg [.int .i64 x_a, .int .i64 x_b, .int .i64 x_r], .agg [.int .i64 y_a, .int .i64 y_b, .int .i64 y_r]] fr st = some (.ok (retE none (.bool (aheadA (⟨x_a, x_b, x_r⟩ : Atom) (⟨y_a, y_b, y_r⟩ : Atom)))) fr st) :=
  call_pure rfl fi216_eq rfl (fun st => c90 (⟨x_a, x_b, x_r⟩ : Atom) (⟨y_a, y_b, y_r⟩ : Atom)  st) (by simp)
theorem x90 : gS.ext 90 = none := rfl
theorem p90 : fi90.pure = true := rfl
def fi30 : FI := { body := codeOf Try.f30, ntmps := 31, results := [.tmp 4], pers := [0, 1, 4, 5, 6, 7, 8, 9, 10], locals := [7], pure := true, marks := [1000000] }
theorem fi220_eq : gS.fn 30 = some fi30 := by kernel_rfl
theorem st30 (a0 a1 : V) : startFr fi30 [a0, a1] = { ps := [(0, .val a0), (1, .val a1), (4, .any), (5, .any), (6, .any), (7, .any), (8, .any), (9, .any), (10, .any)], ts := [], lc := [] } := rfl
def b30 : Code := mini (codeOf Try.f30)
def c30_22 : Code := codeN b30 11467
def c30_21 : Code := .cond (.tmp 24) c30_22 .skip
def c30_19 : Code := .seq (codeN b30 5323) c30_21
def c30_17 : Code := .seq (codeN b30 2251) c30_19
def c30_24 : Code := codeN b30 971
def c30_15 : Code := .seq (.block 1 c30_17) c30_24
def c30_11 : Code := .seq (.cond (.tmp 11) .skip (.exit 0)) c30_15
def c30_9 : Code := .seq (codeN b30 139) c30_11
def c30_8 : Code := .loop c30_9
def c30_7 : Code := .block 0 c30_8
def c30_5 : Code := .seq (codeN b30 19) c30_7
def c30_25 : Code := .seq (codeN b30 23) .ret
def c30_4 : Code := .seq c30_5 c30_25
def c30_2 : Code := .seq (codeN b30 5) c30_4
def c30_0 : Code := .seq (codeN b30 2) c30_2
theorem E30 : (evK gS fi30 c30_22 fr st k = opsR gS fi30 [mv 25 5 22,
 mv 26 6 3,
 op1 27 (.buildSlice 22 1 #[(0, (.tmp 26))]) 22,
 op1 28 (.call { callee := (.builtin .append), args := #[(.tmp 25), (.tmp 27)], argTypes := #[22, 22] }) 22,
 asn 5 28 22] fr st k) ∧
 evK gS fi30 c30_21 fr st k = condK gS fi30 (fr.op (.tmp 24)).bool? c30_22 .skip fr st k ∧
 (evK gS fi30 c30_19 fr st k = opsR gS fi30 [mv 15 1 22,
 op1 16 (.fieldAddr 59 (.tmp 7) 0) 0,
 ld 17 3 16 3,
 cal 18 62 [(.tmp 15), (.tmp 17)] [22, 3] 4,
 mv 19 18 4,
 mk (some 20) (.move (.tmp 1)) 22 (some (4, false)),
 mk (some 21) (.fieldAddr 59 (.tmp 7) 1) 0 (some (4, false)),
 mk (some 22) (.load 3 (.tmp 21)) 3 (some (4, false)),
 mk (some 23) (.call { callee := (.value (.func 62)), args := #[(.tmp 20), (.tmp 22)], argTypes := #[22, 3] }) 4 (some (4, false)),
 op1 24 (.pick (.tmp 19) (.const (.bool true)) (.tmp 23)) 4] fr st (.seq c30_21 k)) ∧
 (evK gS fi30 c30_17 fr st k = opsR gS fi30 [mv 12 10 3,
 ixa 13 53 8 10 0,
 ld 14 59 13 59,
 op1 7 (.alloc 59) 0,
 asn 6 12 3,
 sto 59 7 14] fr st (.seq c30_19 k)) ∧
 (evK gS fi30 c30_24 fr st k = opsR gS fi30 [op1 29 (.binOp .add 3 (.tmp 10) (.const (.int .i64 1)) 3) 3,
 mv 10 29 3] fr st k) ∧
 evK gS fi30 c30_15 fr st k = evK gS fi30 c30_17 fr st (.blk 1 (.seq c30_24 k)) ∧
 evK gS fi30 c30_11 fr st k = condK gS fi30 (fr.op (.tmp 11)).bool? .skip (.exit 0) fr st (.seq c30_15 k) ∧
 evK gS fi30 c30_9 fr st k = opsR gS fi30 [bop 11 .lss 3 10 9 3 0] fr st (.seq c30_11 k) ∧
 evK gS fi30 c30_7 fr st k = evK gS fi30 c30_8 fr st (.blk 0 k) ∧
 (evK gS fi30 c30_5 fr st k = opsR gS fi30 [mv 8 0 53,
 len1 9 8 53 3,
 op1 10 (.move (.const (.int .i64 0))) 3] fr st (.seq c30_7 k)) ∧
 (evK gS fi30 c30_25 fr st k = opsR gS fi30 [mv 30 5 22,
 asn 4 30 22] fr st (.seq .ret k)) ∧
 evK gS fi30 c30_4 fr st k = evK gS fi30 c30_5 fr st (.seq c30_25 k) ∧
 evK gS fi30 c30_2 fr st k = opsR gS fi30 [op1 5 (.assign (.const (.slice none 0 0))) 22] fr st (.seq c30_4 k) ∧
 evK gS fi30 c30_0 fr st k = opsR gS fi30 [op1 4 (.assign (.const (.slice none 0 0))) 22] fr st (.seq c30_2 k) := ⟨evK_r 6 (by kernel_rfl), rfl, evK_rs 5 rfl (by kernel_rfl), evK_rs 4 rfl (by kernel_rfl), evK_r 7 (by kernel_rfl), rfl, rfl, evK_rs 3 rfl (by kernel_rfl), rfl, evK_rs 2 rfl (by kernel_rfl), evK_rs 8 rfl (by kernel_rfl), rfl, evK_rs 1 rfl (by kernel_rfl), evK_rs 0 rfl (by kernel_rfl)⟩
theorem m30 : mini fi30.body = c30_0 := by kernel_rfl
theorem n30_8 (fr : Fr) (st : St) (k : Kt) : nextK gS fi30 (.loop c30_9 k) .normal fr st = evK gS fi30 c30_8 fr st k := rfl
set_option maxHeartbeats 8000000 in
theorem L30 (g : List Atom) (ms : List Int) (hms : ms.length < 4611686018427387904) (hgl : g.length < 1000000) (st : St) : ∀ (m i : Nat) (out : List Int) (e0 e6 e7 : E) (T : List (Nat × E)) (X : List (Nat × List V)) (h0 : e0.Tame) (h6 : e6.Tame) (h7 : e7.Tame), i ≤ g.length → g.length - i = m → out.length ≤ i →
    evK gS fi30 c30_8 { ps := [(0, e0), (1, .val (.slice (intVs ms))), (4, .own 0 []), (5, .own (kof 1 out) (intVs out)), (6, e6), (7, e7), (8, .val (.slice (encAtoms g))), (9, .val (.int .i64 g.length)), (10, .val (.int .i64 (i : Nat)))], ts := T, lc := X } st (.blk 0 (.seq c30_25 .nil)) = some (.ret (.slice (intVs (wayG (fun x => hasI ms x.a || hasI ms x.b) i (g.drop i) out))) none, st) := by
  intro m
  have hm : fi30.marks = [1000000] := rfl
  have hl : fi30.locals = [7] := rfl
  have hr : fi30.results = [.tmp 4] := rfl
  have hz := fun xs st => frz_slice (xs := intVs xs) (flats_ints xs) st
  induction m with
  | zero =>
    intro i out e0 e6 e7 T X h0 h6 h7 hi hm2 ho
    obtain rfl : i = g.length := by omega
    rw [List.drop_length]
    refine evK_loop c30_9 _ _ _ _ rfl ?_
    rcases kof_or 1 out with ⟨hk, rfl⟩ | hk
    · have en : intVs [] = [] := rfl
      have hz0 := hz [] st
      rw [en] at hz0
      rw [hk, en]
      simp [h0, h6, h7, hz0, wayG, en, -Int.not_le, -Int.not_lt, -Nat.not_le, -Nat.not_lt, ty3, ty4, ty22, ty53, ty59, eq59, hm, hl, hr, E30, n30_8]
    · rw [hk]
      simp [h0, h6, h7, hz, wayG, -Int.not_le, -Int.not_lt, -Nat.not_le, -Nat.not_lt, ty3, ty4, ty22, ty53, ty59, eq59, hm, hl, hr, E30, n30_8]
  | succ m ih =>
    intro i out e0 e6 e7 T X h0 h6 h7 hi hm2 ho
    obtain ⟨x, hx⟩ : ∃ x, g[i]? = some x := ⟨g[i]'(by omega), List.getElem?_eq_getElem (by omega)⟩
    have hd := drop_get hx
    have hlt : (i : Int) < (g.length : Int) := by omega
    obtain ⟨hlt2, hxe⟩ := List.getElem?_eq_some_iff.1 hx
    have hw : IntKind.wrap .i64 ((i : Int) + 1) = ((i + 1 : Nat) : Int) := by rw [wrap64 (by omega) (by omega)]; omega
    rw [hd]
    refine evK_loop c30_9 _ _ _ _ rfl ?_
    have ka := fun (fr : Fr) (st : St) => k62 ms x.a hms fr st
    have kb := fun (fr : Fr) (st : St) => k62 ms x.b hms fr st
    have hstep : wayG (fun x => hasI ms x.a || hasI ms x.b) i (x :: g.drop (i + 1)) out = wayG (fun x => hasI ms x.a || hasI ms x.b) (i + 1) (g.drop (i + 1)) (if (hasI ms x.a || hasI ms x.b) = true then out ++ [(i : Int)] else out) := rfl
    rw [hstep]
    have hs1 := sizes_ints out
    have hs2 := ints_snoc out (i : Int)
    have b1 : (out.length + 1) * 8 ≤ 140737488355328 := by omega
    have b2 : out.length + 1 ≤ 140737488355328 := by omega
    have IH1 := fun e0 e6 e7 T X h0 h6 h7 => ih (i + 1) (out ++ [(i : Int)]) e0 e6 e7 T X h0 h6 h7 (by omega) (by omega) (by simp; omega)
    have IH2 := fun e0 e6 e7 T X h0 h6 h7 => ih (i + 1) out e0 e6 e7 T X h0 h6 h7 (by omega) (by omega) (by omega)
    rw [kof_snoc] at IH1
    generalize hasI ms x.a = ta at *
    generalize hasI ms x.b = tb at *
    have en : intVs [] = [] := rfl
    have en1 : intVs ([] ++ [(i : Int)]) = [.int .i64 (i : Int)] := rfl
    rcases kof_or 1 out with ⟨hk, rfl⟩ | hk
    · rw [en1] at IH1
      rw [hk, en] at IH2
      rw [hk, en]
      cases ta <;> cases tb
      all_goals simp [-Int.natCast_add, h0, h6, h7, hx, hxe, hlt, hlt2, hw, ka, kb, -Int.not_le, -Int.not_lt, -Nat.not_le, -Nat.not_lt, ty3, ty4, ty22, ty53, ty59, eq59, hm, hl, hr, E30, n30_8]
      all_goals first | (refine IH1 _ _ _ _ _ ?_ ?_ ?_ <;> simp [h0, h6, h7]; done) | (refine IH2 _ _ _ _ _ ?_ ?_ ?_ <;> simp [h0, h6, h7]; done)
    · rw [hk] at IH2 ⊢
      cases ta <;> cases tb
      all_goals simp [-Int.natCast_add, -List.append_assoc, h0, h6, h7, hx, hxe, hlt, hlt2, hw, ka, kb, hs1, hs2, b1, b2, -Int.not_le, -Int.not_lt, -Nat.not_le, -Nat.not_lt, ty3, ty4, ty22, ty53, ty59, eq59, hm, hl, hr, E30, n30_8]
      all_goals first | (refine IH1 _ _ _ _ _ ?_ ?_ ?_ <;> simp [h0, h6, h7]; done) | (refine IH2 _ _ _ _ _ ?_ ?_ ?_ <;> simp [h0, h6, h7]; done)
set_option maxHeartbeats 8000000 in
theorem c30 (g : List Atom) (ms : List Int) (hms : ms.length < 4611686018427387904) (hgl : g.length < 1000000) (st : St) : EvF gS 30 [.slice (encAtoms g), .slice (intVs ms)] st = some (.ret (.slice (intVs (wayA g ms))) none, st) := by
  refine EvF_start fi220_eq (fun x h => by cases h) m30 ?_
  rw [st30]
  have hm : fi30.marks = [1000000] := rfl
  have hl : fi30.locals = [7] := rfl
  have hr : fi30.results = [.tmp 4] := rfl
  have L0 := fun e0 e6 e7 T X h0 h6 h7 => L30 g ms hms hgl st g.length 0 [] e0 e6 e7 T X h0 h6 h7 (Nat.zero_le _) rfl (Nat.le_refl _)
  simp only [show ((0 : Nat) : Int) = 0 from rfl, List.drop_zero, show kof 1 ([] : List Int) = 0 from rfl, show intVs [] = [] from rfl] at L0
  show _ = some (Out.ret (V.slice (intVs (wayG (fun x => hasI ms x.a || hasI ms x.b) 0 g []))) none, st)
  simp [L0, -Int.not_le, -Int.not_lt, -Nat.not_le, -Nat.not_lt, ty3, ty4, ty22, ty53, ty59, eq59, hm, hl, hr, E30, n30_8]
theorem k30 (g : List Atom) (ms : List Int) (hms : ms.length < 4611686018427387904) (hgl : g.length < 1000000) (fr : Fr) (st : St) : callStep gS (EvF gS) 30 [.slice (encAtoms g), .slice (intVs ms)] fr st = some (.ok (.val (.slice (intVs (wayA g ms)))) fr st) :=
  call_pure rfl fi220_eq rfl (fun st => c30 g ms hms hgl st) (by simp [V.flat])
def fi31 : FI := { body := codeOf Try.f31, ntmps := 31, results := [.tmp 4], pers := [0, 1, 4, 5, 6, 7, 8, 9, 10], locals := [7], pure := true, marks := [1000000] }
theorem fi221_eq : gS.fn 31 = some fi31 := by kernel_rfl
theorem st31 (a0 a1 : V) : startFr fi31 [a0, a1] = { ps := [(0, .val a0), (1, .val a1), (4, .any), (5, .any), (6, .any), (7, .any), (8, .any), (9, .any), (10, .any)], ts := [], lc := [] } := rfl
def b31 : Code := mini (codeOf Try.f31)
def c31_22 : Code := codeN b31 11467
def c31_21 : Code := .cond (.tmp 24) c31_22 .skip
def c31_19 : Code := .seq (codeN b31 5323) c31_21
def c31_17 : Code := .seq (codeN b31 2251) c31_19
def c31_24 : Code := codeN b31 971
def c31_15 : Code := .seq (.block 1 c31_17) c31_24
def c31_11 : Code := .seq (.cond (.tmp 11) .skip (.exit 0)) c31_15
def c31_9 : Code := .seq (codeN b31 139) c31_11
def c31_8 : Code := .loop c31_9
def c31_7 : Code := .block 0 c31_8
def c31_5 : Code := .seq (codeN b31 19) c31_7
def c31_25 : Code := .seq (codeN b31 23) .ret
def c31_4 : Code := .seq c31_5 c31_25
def c31_2 : Code := .seq (codeN b31 5) c31_4
def c31_0 : Code := .seq (codeN b31 2) c31_2
theorem E31 : (evK gS fi31 c31_22 fr st k = opsR gS fi31 [mv 25 5 22,
 mv 26 6 3,
 op1 27 (.buildSlice 22 1 #[(0, (.tmp 26))]) 22,
 op1 28 (.call { callee := (.builtin .append), args := #[(.tmp 25), (.tmp 27)], argTypes := #[22, 22] }) 22,
 asn 5 28 22] fr st k) ∧
 evK gS fi31 c31_21 fr st k = condK gS fi31 (fr.op (.tmp 24)).bool? c31_22 .skip fr st k ∧
 (evK gS fi31 c31_19 fr st k = opsR gS fi31 [mv 15 1 22,
 op1 16 (.fieldAddr 59 (.tmp 7) 0) 0,
 ld 17 3 16 3,
 cal 18 62 [(.tmp 15), (.tmp 17)] [22, 3] 4,
 mv 19 18 4,
 mk (some 20) (.move (.tmp 1)) 22 (some (4, true)),
 mk (some 21) (.fieldAddr 59 (.tmp 7) 1) 0 (some (4, true)),
 mk (some 22) (.load 3 (.tmp 21)) 3 (some (4, true)),
 mk (some 23) (.call { callee := (.value (.func 62)), args := #[(.tmp 20), (.tmp 22)], argTypes := #[22, 3] }) 4 (some (4, true)),
 op1 24 (.pick (.tmp 19) (.tmp 23) (.const (.bool false))) 4] fr st (.seq c31_21 k)) ∧
 (evK gS fi31 c31_17 fr st k = opsR gS fi31 [mv 12 10 3,
 ixa 13 53 8 10 0,
 ld 14 59 13 59,
 op1 7 (.alloc 59) 0,
 asn 6 12 3,
 sto 59 7 14] fr st (.seq c31_19 k)) ∧
 (evK gS fi31 c31_24 fr st k = opsR gS fi31 [op1 29 (.binOp .add 3 (.tmp 10) (.const (.int .i64 1)) 3) 3,
 mv 10 29 3] fr st k) ∧
 evK gS fi31 c31_15 fr st k = evK gS fi31 c31_17 fr st (.blk 1 (.seq c31_24 k)) ∧
 evK gS fi31 c31_11 fr st k = condK gS fi31 (fr.op (.tmp 11)).bool? .skip (.exit 0) fr st (.seq c31_15 k) ∧
 evK gS fi31 c31_9 fr st k = opsR gS fi31 [bop 11 .lss 3 10 9 3 0] fr st (.seq c31_11 k) ∧
 evK gS fi31 c31_7 fr st k = evK gS fi31 c31_8 fr st (.blk 0 k) ∧
 (evK gS fi31 c31_5 fr st k = opsR gS fi31 [mv 8 0 53,
 len1 9 8 53 3,
 op1 10 (.move (.const (.int .i64 0))) 3] fr st (.seq c31_7 k)) ∧
 (evK gS fi31 c31_25 fr st k = opsR gS fi31 [mv 30 5 22,
 asn 4 30 22] fr st (.seq .ret k)) ∧
 evK gS fi31 c31_4 fr st k = evK gS fi31 c31_5 fr st (.seq c31_25 k) ∧
 evK gS fi31 c31_2 fr st k = opsR gS fi31 [op1 5 (.assign (.const (.slice none 0 0))) 22] fr st (.seq c31_4 k) ∧
 evK gS fi31 c31_0 fr st k = opsR gS fi31 [op1 4 (.assign (.const (.slice none 0 0))) 22] fr st (.seq c31_2 k) := ⟨evK_r 6 (by kernel_rfl), rfl, evK_rs 5 rfl (by kernel_rfl), evK_rs 4 rfl (by kernel_rfl), evK_r 7 (by kernel_rfl), rfl, rfl, evK_rs 3 rfl (by kernel_rfl), rfl, evK_rs 2 rfl (by kernel_rfl), evK_rs 8 rfl (by kernel_rfl), rfl, evK_rs 1 rfl (by kernel_rfl), evK_rs 0 rfl (by kernel_rfl)⟩
theorem m31 : mini fi31.body = c31_0 := by kernel_rfl
theorem n31_8 (fr : Fr) (st : St) (k : Kt) : nextK gS fi31 (.loop c31_9 k) .normal fr st = evK gS fi31 c31_8 fr st k := rfl
set_option maxHeartbeats 8000000 in
theorem L31 (g : List Atom) (ms : List Int) (hms : ms.length < 4611686018427387904) (hgl : g.length < 1000000) (st : St) : ∀ (m i : Nat) (out : List Int) (e0 e6 e7 : E) (T : List (Nat × E)) (X : List (Nat × List V)) (h0 : e0.Tame) (h6 : e6.Tame) (h7 : e7.Tame), i ≤ g.length → g.length - i = m → out.length ≤ i →
    evK gS fi31 c31_8 { ps := [(0, e0), (1, .val (.slice (intVs ms))), (4, .own 0 []), (5, .own (kof 1 out) (intVs out)), (6, e6), (7, e7), (8, .val (.slice (encAtoms g))), (9, .val (.int .i64 g.length)), (10, .val (.int .i64 (i : Nat)))], ts := T, lc := X } st (.blk 0 (.seq c31_25 .nil)) = some (.ret (.slice (intVs (wayG (fun x => hasI ms x.a && hasI ms x.b) i (g.drop i) out))) none, st) := by
  intro m
  have hm : fi31.marks = [1000000] := rfl
  have hl : fi31.locals = [7] := rfl
  have hr : fi31.results = [.tmp 4] := rfl
  have hz := fun xs st => frz_slice (xs := intVs xs) (flats_ints xs) st
  induction m with
  | zero =>
    intro i out e0 e6 e7 T X h0 h6 h7 hi hm2 ho
    obtain rfl : i = g.length := by omega
    rw [List.drop_length]
    refine evK_loop c31_9 _ _ _ _ rfl ?_
    rcases kof_or 1 out with ⟨hk, rfl⟩ | hk
    · have en : intVs [] = [] := rfl
      have hz0 := hz [] st
      rw [en] at hz0
      rw [hk, en]
      simp [h0, h6, h7, hz0, wayG, en, -Int.not_le, -Int.not_lt, -Nat.not_le, -Nat.not_lt, ty3, ty4, ty22, ty53, ty59, eq59, hm, hl, hr, E31, n31_8]
    · rw [hk]
      simp [h0, h6, h7, hz, wayG, -Int.not_le, -Int.not_lt, -Nat.not_le, -Nat.not_lt, ty3, ty4, ty22, ty53, ty59, eq59, hm, hl, hr, E31, n31_8]
  | succ m ih =>
    intro i out e0 e6 e7 T X h0 h6 h7 hi hm2 ho
    obtain ⟨x, hx⟩ : ∃ x, g[i]? = some x := ⟨g[i]'(by omega), List.getElem?_eq_getElem (by omega)⟩
    have hd := drop_get hx
    have hlt : (i : Int) < (g.length : Int) := by omega
    obtain ⟨hlt2, hxe⟩ := List.getElem?_eq_some_iff.1 hx
    have hw : IntKind.wrap .i64 ((i : Int) + 1) = ((i + 1 : Nat) : Int) := by rw [wrap64 (by omega) (by omega)]; omega
    rw [hd]
    refine evK_loop c31_9 _ _ _ _ rfl ?_
    have ka := fun (fr : Fr) (st : St) => k62 ms x.a hms fr st
    have kb := fun (fr : Fr) (st : St) => k62 ms x.b hms fr st
    have hstep : wayG (fun x => hasI ms x.a && hasI ms x.b) i (x :: g.drop (i + 1)) out = wayG (fun x => hasI ms x.a && hasI ms x.b) (i + 1) (g.drop (i + 1)) (if (hasI ms x.a && hasI ms x.b) = true then out ++ [(i : Int)] else out) := rfl
    rw [hstep]
    have hs1 := sizes_ints out
    have hs2 := ints_snoc out (i : Int)
    have b1 : (out.length + 1) * 8 ≤ 140737488355328 := by omega
    have b2 : out.length + 1 ≤ 140737488355328 := by omega
    have IH1 := fun e0 e6 e7 T X h0 h6 h7 => ih (i + 1) (out ++ [(i : Int)]) e0 e6 e7 T X h0 h6 h7 (by omega) (by omega) (by simp; omega)
    have IH2 := fun e0 e6 e7 T X h0 h6 h7 => ih (i + 1) out e0 e6 e7 T X h0 h6 h7 (by omega) (by omega) (by omega)
    rw [kof_snoc] at IH1
    generalize hasI ms x.a = ta at *
    generalize hasI ms x.b = tb at *
    have en : intVs [] = [] := rfl
    have en1 : intVs ([] ++ [(i : Int)]) = [.int .i64 (i : Int)] := rfl
    rcases kof_or 1 out with ⟨hk, rfl⟩ | hk
    · rw [en1] at IH1
      rw [hk, en] at IH2
      rw [hk, en]
      cases ta <;> cases tb
      all_goals simp [-Int.natCast_add, h0, h6, h7, hx, hxe, hlt, hlt2, hw, ka, kb, -Int.not_le, -Int.not_lt, -Nat.not_le, -Nat.not_lt, ty3, ty4, ty22, ty53, ty59, eq59, hm, hl, hr, E31, n31_8]
      all_goals first | (refine IH1 _ _ _ _ _ ?_ ?_ ?_ <;> simp [h0, h6, h7]; done) | (refine IH2 _ _ _ _ _ ?_ ?_ ?_ <;> simp [h0, h6, h7]; done)
    · rw [hk] at IH2 ⊢
      cases ta <;> cases tb
      all_goals simp [-Int.natCast_add, -List.append_assoc, h0, h6, h7, hx, hxe, hlt, hlt2, hw, ka, kb, hs1, hs2, b1, b2, -Int.not_le, -Int.not_lt, -Nat.not_le, -Nat.not_lt, ty3, ty4, ty22, ty53, ty59, eq59, hm, hl, hr, E31, n31_8]
      all_goals first | (refine IH1 _ _ _ _ _ ?_ ?_ ?_ <;> simp [h0, h6, h7]; done) | (refine IH2 _ _ _ _ _ ?_ ?_ ?_ <;> simp [h0, h6, h7]; done)
set_option maxHeartbeats 8000000 in
theorem c31 (g : List Atom) (ms : List Int) (hms : ms.length < 4611686018427387904) (hgl : g.length < 1000000) (st : St) : EvF gS 31 [.slice (encAtoms g), .slice (intVs ms)] st = some (.ret (.slice (intVs (ownA g ms))) none, st) := by
  refine EvF_start fi221_eq (fun x h => by cases h) m31 ?_
  rw [st31]
  have hm : fi31.marks = [1000000] := rfl
  have hl : fi31.locals = [7] := rfl
  have hr : fi31.results = [.tmp 4] := rfl
  have L0 := fun e0 e6 e7 T X h0 h6 h7 => L31 g ms hms hgl st g.length 0 [] e0 e6 e7 T X h0 h6 h7 (Nat.zero_le _) rfl (Nat.le_refl _)
  simp only [show ((0 : Nat) : Int) = 0 from rfl, List.drop_zero, show kof 1 ([] : List Int) = 0 from rfl, show intVs [] = [] from rfl] at L0
  show _ = some (Out.ret (V.slice (intVs (wayG (fun x => hasI ms x.a && hasI ms x.b) 0 g []))) none, st)
  simp [L0, -Int.not_le, -Int.not_lt, -Nat.not_le, -Nat.not_lt, ty3, ty4, ty22, ty53, ty59, eq59, hm, hl, hr, E31, n31_8]
theorem k31 (g : List Atom) (ms : List Int) (hms : ms.length < 4611686018427387904) (hgl : g.length < 1000000) (fr : Fr) (st : St) : callStep gS (EvF gS) 31 [.slice (encAtoms g), .slice (intVs ms)] fr st = some (.ok (.val (.slice (intVs (ownA g ms)))) fr st) :=
  call_pure rfl fi221_eq rfl (fun st => c31 g ms hms hgl st) (by simp [V.flat])
def fi60 : FI := { body := codeOf Try.f60, ntmps := 33, results := [.tmp 4], pers := [0, 1, 3, 4, 5, 6], locals := [3], pure := true, marks := [1000000] }
theorem fi217_eq : gS.fn 60 = some fi60 := by kernel_rfl
theorem st60 (a0 a1 : V) : startFr fi60 [a0, a1] = { ps := [(0, .val a0), (1, .val a1), (3, .any), (4, .any), (5, .any), (6, .any)], ts := [], lc := [] } := rfl
def b60 : Code := mini (codeOf Try.f60)
def r60_9 : Array Oper := regOps (codeN (codeOf Try.f60) 131)
def c60_9 : Code := .region 2 r60_9 true
def q60_9 : List (Oper × Fl) := [(mv 7 5 3, ⟨true, false, true, false, false, false, true, true, false, false, []⟩),
 (mv 8 0 53, ⟨true, false, true, false, true, false, true, true, false, false, []⟩),
 (len1 9 8 53 3, ⟨true, false, true, false, true, false, true, true, false, false, []⟩),
 (bop 10 .lss 3 7 9 3 4, ⟨true, true, true, false, true, false, true, true, false, false, []⟩),
 (mv 11 10 4, ⟨true, true, true, false, true, false, true, true, false, false, []⟩),
 (mk (some 12) (.move (.tmp 0)) 53 (some (4, true)), ⟨true, false, true, false, false, false, true, true, false, false, []⟩),
 (mk (some 13) (.move (.tmp 5)) 3 (some (4, true)), ⟨true, false, true, false, false, false, true, true, false, false, []⟩),
 (mk (some 14) (.indexAddr 53 (.tmp 12) (.tmp 13)) 0 (some (4, true)), ⟨true, false, true, false, false, false, true, true, false, false, []⟩),
 (mk (some 15) (.load 59 (.tmp 14)) 59 (some (4, true)), ⟨true, false, true, false, false, false, true, true, false, false, []⟩),
 (mk (some 16) (.load 59 (.tmp 3)) 59 (some (4, true)), ⟨true, false, true, false, true, false, true, true, false, false, []⟩),
 (mk (some 17) (.call { callee := (.value (.func 90)), args := #[(.tmp 15), (.tmp 16)], argTypes := #[59, 59] }) 4 (some (4, true)), ⟨true, true, true, false, true, true, true, true, false, false, []⟩),
 (op1 18 (.pick (.tmp 11) (.tmp 17) (.const (.bool false))) 4, ⟨true, true, true, false, true, false, true, true, false, false, []⟩)]
def c60_10 : Code := .cond (.tmp 18) .skip (.exit 0)
def c60_8 : Code := .seq c60_9 c60_10
def c60_14 : Code := codeN b60 163
def c60_13 : Code := .block 1 c60_14
def c60_7 : Code := .seq c60_8 c60_13
def c60_6 : Code := .loop c60_7
def r60_18 : Array Oper := regOps (codeN (codeOf Try.f60) 47)
def c60_18 : Code := .region 5 r60_18 true
def q60_18 : List (Oper × Fl) := [(mv 25 6 53, ⟨true, false, true, false, false, false, true, true, false, false, []⟩),
 (ld 26 59 3 59, ⟨true, false, true, false, false, false, true, true, false, false, []⟩),
 (op1 27 (.buildSlice 53 1 #[(0, (.tmp 26))]) 53, ⟨true, false, true, false, false, false, true, true, false, false, []⟩),
 (op1 28 (.call { callee := (.builtin .append), args := #[(.tmp 25), (.tmp 27)], argTypes := #[53, 53] }) 53, ⟨false, true, true, false, false, true, true, true, false, false, []⟩),
 (mv 29 0 53, ⟨true, false, false, false, false, false, true, false, false, false, []⟩),
 (mv 30 5 3, ⟨true, false, false, false, true, false, true, false, false, false, []⟩),
 (op1 31 (.slice 53 (.tmp 29) (some (.tmp 30)) none none) 53, ⟨true, false, false, false, true, false, true, false, false, false, []⟩),
 (op1 32 (.call { callee := (.builtin .append), args := #[(.tmp 28), (.tmp 31)], argTypes := #[53, 53] }) 53, ⟨false, true, true, false, true, true, true, true, false, false, []⟩),
 (asn 4 32 53, ⟨true, true, true, false, true, false, true, true, false, false, []⟩)]
def c60_17 : Code := .seq c60_18 .ret
def c60_15 : Code := .seq (codeN b60 23) c60_17
theorem e60_15 : evK gS fi60 c60_15 fr st k = opsR gS fi60 [mv 21 0 53,
 mv 22 5 3,
 op1 23 (.slice 53 (.tmp 21) none (some (.tmp 22)) none) 53,
 op1 24 (.call { callee := (.builtin .append), args := #[(.const (.slice none 0 0)), (.tmp 23)], argTypes := #[53, 53] }) 53,
 asn 6 24 53] fr st (.seq c60_17 k) := evK_rs 4 rfl (by kernel_rfl)
def c60_4 : Code := .seq (.block 0 c60_6) c60_15
def c60_2 : Code := .seq (codeN b60 5) c60_4
def c60_0 : Code := .seq (codeN b60 2) c60_2
theorem E60 : evK gS fi60 c60_9 fr st k = drwR gS fi60 r60_9 q60_9 fr st k ∧
 evK gS fi60 c60_10 fr st k = condK gS fi60 (fr.op (.tmp 18)).bool? .skip (.exit 0) fr st k ∧
 evK gS fi60 c60_8 fr st k = evK gS fi60 c60_9 fr st (.seq c60_10 k) ∧
 (evK gS fi60 c60_14 fr st k = opsR gS fi60 [mv 19 5 3,
 op1 20 (.binOp .add 3 (.tmp 19) (.const (.int .i64 1)) 3) 3,
 asn 5 20 3] fr st k) ∧
 evK gS fi60 c60_13 fr st k = evK gS fi60 c60_14 fr st (.blk 1 k) ∧
 evK gS fi60 c60_7 fr st k = evK gS fi60 c60_8 fr st (.seq c60_13 k) ∧
 evK gS fi60 c60_18 fr st k = drwR gS fi60 r60_18 q60_18 fr st k ∧
 evK gS fi60 c60_17 fr st k = evK gS fi60 c60_18 fr st (.seq .ret k) ∧
 evK gS fi60 c60_4 fr st k = evK gS fi60 c60_6 fr st (.blk 0 (.seq c60_15 k)) ∧
 evK gS fi60 c60_2 fr st k = opsR gS fi60 [op1 5 (.assign (.const (.int .i64 0))) 3] fr st (.seq c60_4 k) ∧
 (evK gS fi60 c60_0 fr st k = opsR gS fi60 [op1 3 (.box 59 (.tmp 1)) 0,
 op1 4 (.assign (.const (.slice none 0 0))) 53] fr st (.seq c60_2 k)) := ⟨evK_dr 2 rfl (by kernel_rfl) (by kernel_rfl), rfl, rfl, evK_r 3 (by kernel_rfl), rfl, rfl, evK_dr 5 rfl (by kernel_rfl) (by kernel_rfl), rfl, rfl, evK_rs 1 rfl (by kernel_rfl), evK_rs 0 rfl (by kernel_rfl)⟩
theorem m60 : mini fi60.body = c60_0 := by kernel_rfl
theorem n60_6 (fr : Fr) (st : St) (k : Kt) : nextK gS fi60 (.loop c60_7 k) .normal fr st = evK gS fi60 c60_6 fr st k := rfl
theorem bn1 : borOk r60_18 0 6 25 = true := by kernel_rfl
theorem bn2 : handOk r60_18 8 32 = true := by kernel_rfl
set_option maxHeartbeats 8000000 in
theorem L60 (l : List Atom) (hl1 : l.length < 1000000) (x : Atom) (st : St) (R : Out × St) (e1 : E) (h1e : e1.Tame)
    (H : ∀ T X, lk X 3 = some [.int .i64 x.a, .int .i64 x.b, .int .i64 x.br] → evK gS fi60 c60_15 { ps := [(0, .val (.slice (encAtoms l))), (1, e1), (3, .lp 3 0), (4, .own 0 []), (5, .val (.int .i64 (posA l x : Nat))), (6, .any)], ts := T, lc := X } st .nil = some R) :
    ∀ (m i : Nat) (T : List (Nat × E)) (X : List (Nat × List V)) (hX : lk X 3 = some [.int .i64 x.a, .int .i64 x.b, .int .i64 x.br]), i ≤ posA l x → posA l x - i = m → evK gS fi60 c60_6 { ps := [(0, .val (.slice (encAtoms l))), (1, e1), (3, .lp 3 0), (4, .own 0 []), (5, .val (.int .i64 (i : Nat))), (6, .any)], ts := T, lc := X } st (.blk 0 (.seq c60_15 .nil)) = some R := by
  intro m
  have hm : fi60.marks = [1000000] := rfl
  have hl : fi60.locals = [3] := rfl
  have hr : fi60.results = [.tmp 4] := rfl
  have hpl := posA_le l x
  induction m with
  | zero =>
    intro i T X hX hi hm2
    obtain rfl : i = posA l x := by omega
    refine evK_loop c60_7 _ _ _ _ rfl ?_
    cases hx : l[posA l x]? with
    | none =>
      have h1 : ¬ ((posA l x : Nat) : Int) < (l.length : Int) := by rw [List.getElem?_eq_none_iff] at hx; omega
      simp [-Int.natCast_add, h1, h1e, hX, H, -Int.not_le, -Int.not_lt, -Nat.not_le, -Nat.not_lt, ty3, ty4, ty53, ty59, eq59, hm, hl, hr, x90, fi216_eq, p90, E60, q60_9, q60_18, n60_6]
    | some y =>
      obtain ⟨h2, h3⟩ := List.getElem?_eq_some_iff.1 hx
      have h1 : ((posA l x : Nat) : Int) < (l.length : Int) := by omega
      have h4 := posA_ge l x y hx
      have kk : ∀ fr st, callStep gS (EvF gS) 90 [.agg [.int .i64 y.a, .int .i64 y.b, .int .i64 y.br], .agg [.int .i64 x.a, .int .i64 x.b, .int .i64 x.br]] fr st = some (.ok (.val (.bool false)) fr st) := fun fr st => by rw [← h4]; exact k90 y.a y.b y.br x.a x.b x.br fr st
      simp [-Int.natCast_add, h1, h2, h3, h1e, hX, hx, kk, H, -Int.not_le, -Int.not_lt, -Nat.not_le, -Nat.not_lt, ty3, ty4, ty53, ty59, eq59, hm, hl, hr, x90, fi216_eq, p90, E60, q60_9, q60_18, n60_6]
  | succ m ih =>
    intro i T X hX hi hm2
    have h2 : i < l.length := by omega
    obtain ⟨y, hx⟩ : ∃ y, l[i]? = some y := ⟨l[i]'h2, List.getElem?_eq_getElem h2⟩
    have h3 : l[i]'h2 = y := (List.getElem?_eq_some_iff.1 hx).2
    have h1 : (i : Int) < (l.length : Int) := by omega
    have h4 := posA_lt l x i y (by omega) hx
    have kk : ∀ fr st, callStep gS (EvF gS) 90 [.agg [.int .i64 y.a, .int .i64 y.b, .int .i64 y.br], .agg [.int .i64 x.a, .int .i64 x.b, .int .i64 x.br]] fr st = some (.ok (.val (.bool true)) fr st) := fun fr st => by rw [← h4]; exact k90 y.a y.b y.br x.a x.b x.br fr st
    have hw : IntKind.wrap .i64 ((i : Int) + 1) = ((i + 1 : Nat) : Int) := by rw [wrap64 (by omega) (by omega)]; omega
    have IH := fun T X hX => ih (i + 1) T X hX (by omega) (by omega)
    refine evK_loop c60_7 _ _ _ _ rfl ?_
    simp [-Int.natCast_add, h1, h2, h3, h1e, hX, hx, hw, kk, IH, -Int.not_le, -Int.not_lt, -Nat.not_le, -Nat.not_lt, ty3, ty4, ty53, ty59, eq59, hm, hl, hr, x90, fi216_eq, p90, E60, q60_9, q60_18, n60_6]
set_option maxHeartbeats 8000000 in
theorem c60 (l : List Atom) (hl1 : l.length < 1000000) (x : Atom) (st : St) : EvF gS 60 [.slice (encAtoms l), .agg [.int .i64 x.a, .int .i64 x.b, .int .i64 x.br]] st = some (.ret (.slice (encAtoms (layA l x))) none, st) := by
  refine EvF_start fi217_eq (fun x h => by cases h) m60 ?_
  rw [st60]
  have hm : fi60.marks = [1000000] := rfl
  have hl : fi60.locals = [3] := rfl
  have hr : fi60.results = [.tmp 4] := rfl
  have hpl := posA_le l x
  have hz := fun xs st => frz_slice (xs := encAtoms xs) (flats_atoms xs) st
  generalize hR : (Out.ret (V.slice (encAtoms (layA l x))) none, st) = R
  have LL := fun X hX e1 h1e H T => L60 l hl1 x st R e1 h1e H (posA l x) 0 T X hX (Nat.zero_le _) rfl
  rw [show ((0 : Nat) : Int) = 0 from rfl] at LL
  simp [-Int.natCast_add, -Int.not_le, -Int.not_lt, -Nat.not_le, -Nat.not_lt, ty3, ty4, ty53, ty59, eq59, hm, hl, hr, x90, fi216_eq, p90, E60, q60_9, q60_18, e60_15, n60_6, bn1, bn2]
  refine LL _ ?_ _ ?_ (fun T X hX => ?_) _
  · simp
  · simp
  clear LL
  subst hR
  unfold layA
  generalize posA l x = p at *
  have hp0 : (0 : Int) ≤ (p : Int) := by omega
  have hp1 : (p : Int) ≤ (l.length : Int) := by omega
  have hsi := sizes_atoms
  have e0 : (encAtoms l).take l.length = encAtoms l := List.take_of_length_le (by simp)
  have e1 := atoms_take l p
  have e2 := atoms_drop l p
  have e3 : encAtoms (l.take p) ++ [.agg [.int .i64 x.a, .int .i64 x.b, .int .i64 x.br]] = encAtoms (l.take p ++ [x]) := by simp [encAtoms]
  have e4 := atoms_append (l.take p ++ [x]) (l.drop p)
  have e5 : (l.drop p).length = l.length - p := by simp
  have e6 : (l.take p).length = p := by simp; omega
  have b1 : p * 24 ≤ 140737488355328 := by omega
  have b2 : p ≤ 140737488355328 := by omega
  have b3 : (p + 1) * 24 ≤ 140737488355328 := by omega
  have b4 : p + 1 ≤ 140737488355328 := by omega
  have b5 : (p + 1 + (l.length - p)) * 24 ≤ 140737488355328 := by omega
  have b6 : p + 1 + (l.length - p) ≤ 140737488355328 := by omega
  simp [-Int.natCast_add, -List.append_assoc, hX, hz, hp0, hp1, hsi, e0, e1, e2, e3, e4, e5, e6, b1, b2, b3, b4, b5, b6, -Int.not_le, -Int.not_lt, -Nat.not_le, -Nat.not_lt, ty3, ty4, ty53, ty59, eq59, hm, hl, hr, x90, fi216_eq, p90, E60, q60_9, q60_18, e60_15, n60_6, bn1, bn2]
theorem k60 (l : List Atom) (hl1 : l.length < 1000000) (x : Atom) (fr : Fr) (st : St) : callStep gS (EvF gS) 60 [.slice (encAtoms l), .agg [.int .i64 x.a, .int .i64 x.b, .int .i64 x.br]] fr st = some (.ok (.val (.slice (encAtoms (layA l x)))) fr st) :=
  call_pure rfl fi217_eq rfl (fun st => c60 l hl1 x st) (by simp [V.flat])
def fi26 : FI := { body := codeOf Try.f26, ntmps := 23, results := [.tmp 4], pers := [0, 1, 4, 5, 6], locals := [], pure := false, marks := [1000000] }
theorem fi200_eq : gS.fn 26 = some fi26 := by kernel_rfl
theorem st26 (a0 a1 : V) : startFr fi26 [a0, a1] = { ps := [(0, .val a0), (1, .val a1), (4, .any), (5, .any), (6, .any)], ts := [], lc := [] } := rfl
def b26 : Code := mini (codeOf Try.f26)
def c26_12 : Code := .cond (.tmp 11) .skip (.exit 0)
def c26_10 : Code := .seq (codeN b26 267) c26_12
def c26_17 : Code := codeN b26 587
def c26_18 : Code := codeN b26 459
def c26_15 : Code := .seq (.block 1 c26_17) c26_18
def c26_9 : Code := .seq c26_10 c26_15
def c26_8 : Code := .loop c26_9
def c26_7 : Code := .block 0 c26_8
def c26_5 : Code := .seq (codeN b26 19) c26_7
def c26_19 : Code := .seq (codeN b26 23) .ret
def c26_4 : Code := .seq c26_5 c26_19
def c26_2 : Code := .seq (codeN b26 5) c26_4
def c26_0 : Code := .seq (codeN b26 2) c26_2
theorem E26 : evK gS fi26 c26_12 fr st k = condK gS fi26 (fr.op (.tmp 11)).bool? .skip (.exit 0) fr st k ∧
 (evK gS fi26 c26_10 fr st k = opsR gS fi26 [mv 10 6 3,
 op1 11 (.binOp .gtr 3 (.tmp 10) (.const (.int .i64 0)) 3) 4] fr st (.seq c26_12 k)) ∧
 (evK gS fi26 c26_17 fr st k = opsR gS fi26 [mv 14 5 22,
 mv 15 0 23,
 mv 16 5 22,
 len1 17 16 22 3,
 op1 18 (.binOp .add 3 (.tmp 17) (.const (.int .i64 1)) 3) 3,
 cal 19 11 [(.tmp 15), (.tmp 18)] [23, 3] 3,
 op1 20 (.buildSlice 22 1 #[(0, (.tmp 19))]) 22,
 op1 21 (.call { callee := (.builtin .append), args := #[(.tmp 14), (.tmp 20)], argTypes := #[22, 22] }) 22,
 asn 5 21 22] fr st k) ∧
 (evK gS fi26 c26_18 fr st k = opsR gS fi26 [mv 12 6 3,
 op1 13 (.binOp .sub 3 (.tmp 12) (.const (.int .i64 1)) 3) 3,
 asn 6 13 3] fr st k) ∧
 evK gS fi26 c26_15 fr st k = evK gS fi26 c26_17 fr st (.blk 1 (.seq c26_18 k)) ∧
 evK gS fi26 c26_9 fr st k = evK gS fi26 c26_10 fr st (.seq c26_15 k) ∧
 evK gS fi26 c26_7 fr st k = evK gS fi26 c26_8 fr st (.blk 0 k) ∧
 (evK gS fi26 c26_5 fr st k = opsR gS fi26 [mv 7 0 23,
 mv 8 1 3,
 cal 9 11 [(.tmp 7), (.tmp 8)] [23, 3] 3,
 asn 6 9 3] fr st (.seq c26_7 k)) ∧
 (evK gS fi26 c26_19 fr st k = opsR gS fi26 [mv 22 5 22,
 asn 4 22 22] fr st (.seq .ret k)) ∧
 evK gS fi26 c26_4 fr st k = evK gS fi26 c26_5 fr st (.seq c26_19 k) ∧
 evK gS fi26 c26_2 fr st k = opsR gS fi26 [op1 5 (.assign (.const (.slice none 0 0))) 22] fr st (.seq c26_4 k) ∧
 evK gS fi26 c26_0 fr st k = opsR gS fi26 [op1 4 (.assign (.const (.slice none 0 0))) 22] fr st (.seq c26_2 k) := ⟨rfl, evK_rs 3 rfl (by kernel_rfl), evK_r 5 (by kernel_rfl), evK_r 4 (by kernel_rfl), rfl, rfl, rfl, evK_rs 2 rfl (by kernel_rfl), evK_rs 6 rfl (by kernel_rfl), rfl, evK_rs 1 rfl (by kernel_rfl), evK_rs 0 rfl (by kernel_rfl)⟩
theorem m26 : mini fi26.body = c26_0 := by kernel_rfl
theorem n26_8 (fr : Fr) (st : St) (k : Kt) : nextK gS fi26 (.loop c26_9 k) .normal fr st = evK gS fi26 c26_8 fr st k := rfl
set_option maxHeartbeats 8000000 in
theorem L26 (l : List Int) (a id : Nat) (ha : a < 549755813888) (st : St) (h : FeedOk st id) (most : Int) : ∀ (n j : Nat) (acc : List Int) (T : List (Nat × E)) (X : List (Nat × List V)), acc.length + n ≤ 8 → j + n < 549755812000 →
    evK gS fi26 c26_8 { ps := [(0, .val (.ptr id 0)), (1, .val (.int .i64 most)), (4, .own 0 []), (5, .own (kof 1 acc) (intVs acc)), (6, .val (.int .i64 (n : Nat)))], ts := T, lc := X } (setF st id l (nA l a j)) (.blk 0 (.seq c26_19 .nil)) = some (.ret (.slice (intVs (treeG l a n j acc))) none, setF st id l (nA l a (j + n))) := by
  intro n
  have hm : fi26.marks = [1000000] := rfl
  have hl : fi26.locals = [] := rfl
  have hr : fi26.results = [.tmp 4] := rfl
  have hz := fun xs st => frz_slice (xs := intVs xs) (flats_ints xs) st
  induction n with
  | zero =>
    intro j acc T X ha2 hj
    rw [show treeG l a 0 j acc = acc from rfl, Nat.add_zero]
    refine evK_loop c26_9 _ _ _ _ rfl ?_
    rcases kof_or 1 acc with ⟨hk, rfl⟩ | hk
    · have en : intVs [] = [] := rfl
      have hz0 := hz []
      rw [en] at hz0
      rw [hk, en]
      simp [hz0, en, -Int.not_le, -Int.not_lt, -Nat.not_le, -Nat.not_lt, ty3, ty4, ty22, ty23, hm, hl, hr, E26, n26_8]
    · rw [hk]
      simp [hz, -Int.not_le, -Int.not_lt, -Nat.not_le, -Nat.not_lt, ty3, ty4, ty22, ty23, hm, hl, hr, E26, n26_8]
  | succ n ih =>
    intro j acc T X ha2 hj
    rw [treeG_succ]
    have hb := fd_bound l a j (n := (acc.length : Int) + 1) (by omega)
    have hw : IntKind.wrap .i64 (((n + 1 : Nat) : Int) - 1) = (n : Int) := by rw [wrap64 (by omega) (by omega)]; omega
    have hw2 : IntKind.wrap .i64 ((acc.length : Int) + 1) = (acc.length : Int) + 1 := wrap64 (by omega) (by omega)
    have hpos : (0 : Int) < ((n + 1 : Nat) : Int) := by omega
    have kk := fun fr => k11 l a j id ((acc.length : Int) + 1) fr st h ha (by omega) (by omega)
    generalize fd l a j ((acc.length : Int) + 1) = x at *
    have IH := fun T X => ih (j + 1) (acc ++ [x]) T X (by simp; omega) (by omega)
    rw [kof_snoc, show j + 1 + n = j + (n + 1) from by omega] at IH
    have hs1 := sizes_ints acc
    have hs2 := ints_snoc acc x
    have b1 : (acc.length + 1) * 8 ≤ 140737488355328 := by omega
    have b2 : acc.length + 1 ≤ 140737488355328 := by omega
    refine evK_loop c26_9 _ _ _ _ rfl ?_
    rcases kof_or 1 acc with ⟨hk, rfl⟩ | hk
    · have en : intVs [] = [] := rfl
      have en1 : intVs ([] ++ [x]) = [.int .i64 x] := rfl
      rw [en1] at IH
      rw [hk, en]
      simp only [List.length_nil, show ((0 : Nat) : Int) + 1 = 1 from rfl] at kk hw2
      have w1 : IntKind.wrap .i64 1 = 1 := wrap64 (by omega) (by omega)
      simp [-Int.natCast_add, hpos, hw, w1, kk, IH, -Int.not_le, -Int.not_lt, -Nat.not_le, -Nat.not_lt, ty3, ty4, ty22, ty23, hm, hl, hr, E26, n26_8]
    · rw [hk]
      simp [-Int.natCast_add, -List.append_assoc, hpos, hw, hw2, kk, hs1, hs2, b1, b2, IH, -Int.not_le, -Int.not_lt, -Nat.not_le, -Nat.not_lt, ty3, ty4, ty22, ty23, hm, hl, hr, E26, n26_8]
set_option maxHeartbeats 8000000 in
theorem c26 (l : List Int) (a j id : Nat) (most : Int) (st : St) (h : FeedOk st id) (ha : a < 549755813888) (hj : j < 549755811000) (hm1 : 1 ≤ most) (hm2 : most ≤ 8) :
    EvF gS 26 [.ptr id 0, .int .i64 most] (setF st id l (nA l a j)) = some (.ret (.slice (intVs (treeV l a j most))) none, setF st id l (nA l a (j + 1 + (fd l a j most).toNat))) := by
  refine EvF_start fi200_eq (fun x h => by cases h) m26 ?_
  rw [st26]
  have hm : fi26.marks = [1000000] := rfl
  have hl : fi26.locals = [] := rfl
  have hr : fi26.results = [.tmp 4] := rfl
  have hb := fd_bound l a j (n := most) hm1
  have kk := fun fr => k11 l a j id most fr st h ha (by omega) (by omega)
  unfold treeV
  obtain ⟨n, hn⟩ : ∃ n : Nat, fd l a j most = n := ⟨_, (Int.toNat_of_nonneg hb.1).symm⟩
  rw [hn] at kk hb ⊢
  simp only [Int.toNat_natCast]
  have LL := fun T X => L26 l a id ha st h most n (j + 1) [] T X (by simp; omega) (by omega)
  rw [show kof 1 ([] : List Int) = 0 from rfl, show intVs [] = [] from rfl] at LL
  simp [-Int.natCast_add, kk, LL, -Int.not_le, -Int.not_lt, -Nat.not_le, -Nat.not_lt, ty3, ty4, ty22, ty23, hm, hl, hr, E26, n26_8]
theorem k26 (l : List Int) (a j id : Nat) (most : Int) (fr : Fr) (st : St) (h : FeedOk st id) (ha : a < 549755813888) (hj : j < 549755811000) (hm1 : 1 ≤ most) (hm2 : most ≤ 8) :
    callStep gS (EvF gS) 26 [.ptr id 0, .int .i64 most] fr (setF st id l (nA l a j)) = some (.ok (.val (.slice (intVs (treeV l a j most)))) (fr.map E.noMem) (setF st id l (nA l a (j + 1 + (fd l a j most).toNat)))) := by
  unfold callStep
  simp only [show gS.ext 26 = none from rfl, fi200_eq, show fi26.pure = false from rfl, Bool.false_eq_true, if_false, c26 l a j id most st h ha hj hm1 hm2, retE]
def fi111 : FI := { body := codeOf Try.f111, ntmps := 36, results := [.tmp 2], pers := [0, 1, 2], locals := [1], pure := true, marks := [] }
theorem fi211_eq : gS.fn 111 = some fi111 := by kernel_rfl
theorem st111 (a0 : V) : startFr fi111 [a0] = { ps := [(0, .val a0), (1, .any), (2, .any)], ts := [], lc := [] } := rfl
def b111 : Code := mini (codeOf Try.f111)
def c111_2 : Code := .seq (codeN b111 5) .ret
theorem e111_2 : evK gS fi111 c111_2 fr st k = opsR gS fi111 [op1 3 (.fieldAddr 31 (.tmp 1) 0) 0,
 ld 4 3 3 3,
 op1 5 (.binOp .geq 3 (.tmp 4) (.const (.int .i64 1)) 3) 4,
 mv 6 5 4,
 mk (some 7) (.fieldAddr 31 (.tmp 1) 0) 0 (some (3, true)),
 mk (some 8) (.load 3 (.tmp 7)) 3 (some (3, true)),
 mk (some 9) (.binOp .leq 3 (.tmp 8) (.const (.int .i64 6)) 3) 4 (some (3, true)),
 op1 10 (.pick (.tmp 6) (.tmp 9) (.const (.bool false))) 4,
 mv 11 10 4,
 mk (some 12) (.fieldAddr 31 (.tmp 1) 1) 0 (some (8, true)),
 mk (some 13) (.load 3 (.tmp 12)) 3 (some (8, true)),
 mk (some 14) (.binOp .geq 3 (.tmp 13) (.const (.int .i64 0)) 3) 4 (some (8, true)),
 op1 15 (.pick (.tmp 11) (.tmp 14) (.const (.bool false))) 4,
 mv 16 15 4,
 mk (some 17) (.fieldAddr 31 (.tmp 1) 1) 0 (some (13, true)),
 mk (some 18) (.load 3 (.tmp 17)) 3 (some (13, true)),
 mk (some 19) (.binOp .leq 3 (.tmp 18) (.const (.int .i64 7)) 3) 4 (some (13, true)),
 op1 20 (.pick (.tmp 16) (.tmp 19) (.const (.bool false))) 4,
 mv 21 20 4,
 mk (some 22) (.fieldAddr 31 (.tmp 1) 2) 0 (some (18, true)),
 mk (some 23) (.load 3 (.tmp 22)) 3 (some (18, true)),
 mk (some 24) (.binOp .geq 3 (.tmp 23) (.const (.int .i64 1)) 3) 4 (some (18, true)),
 op1 25 (.pick (.tmp 21) (.tmp 24) (.const (.bool false))) 4,
 mv 26 25 4,
 mk (some 27) (.fieldAddr 31 (.tmp 1) 2) 0 (some (23, true)),
 mk (some 28) (.load 3 (.tmp 27)) 3 (some (23, true)),
 mk (some 29) (.binOp .leq 3 (.tmp 28) (.const (.int .i64 4611686018427387904)) 3) 4 (some (23, true)),
 op1 30 (.pick (.tmp 26) (.tmp 29) (.const (.bool false))) 4,
 mv 31 30 4,
 mk (some 32) (.fieldAddr 31 (.tmp 1) 3) 0 (some (28, true)),
 mk (some 33) (.load 29 (.tmp 32)) 29 (some (28, true)),
 mk (some 34) (.call { callee := (.value (.func 130)), args := #[(.tmp 33)], argTypes := #[29] }) 4 (some (28, true)),
 op1 35 (.pick (.tmp 31) (.tmp 34) (.const (.bool false))) 4,
 asn 2 35 4] fr st (.seq .ret k) := evK_rs 1 rfl (by kernel_rfl)
def c111_0 : Code := .seq (codeN b111 2) c111_2
theorem e111_0 : evK gS fi111 c111_0 fr st k = opsR gS fi111 [op1 1 (.box 31 (.tmp 0)) 0,
 op1 2 (.assign (.const (.bool false))) 4] fr st (.seq c111_2 k) := evK_rs 0 rfl (by kernel_rfl)
theorem m111 : mini fi111.body = c111_0 := by kernel_rfl
set_option maxHeartbeats 4000000 in
theorem c111 (s : Sub) (h_f : POk s.filter) (st : St) : EvF gS 111 [s.enc] st = some (.ret (.bool (mayS s)) none, st) := by
  refine EvF_start fi211_eq (fun x h => by cases h) m111 ?_
  rw [st111]
  have hm : fi111.marks = [] := rfl
  have hl : fi111.locals = [1] := rfl
  have hr : fi111.results = [.tmp 2] := rfl
  simp (config := { contextual := true, maxSteps := 10000000, maxDischargeDepth := 6 }) [-Int.not_le, -Int.not_lt, -Nat.not_le, -Nat.not_lt, ty3, ty4, ty29, ty31, hm, hl, hr, k130, e111_2, e111_0, h_f]
  all_goals try simp (config := { contextual := true }) [-Int.not_le, -Int.not_lt, -Nat.not_le, -Nat.not_lt, mayS, h_f]
  all_goals first | done | grind | omega | (trace_state; fail)
theorem k111 (s_c : Int) (s_r : Int) (s_m : Int) (s_f : List Pred) (h_f : POk (⟨s_c, s_r, s_m, s_f⟩ : Sub).filter) (fr : Fr) (st : St) : callStep gS (EvF gS) 111 [.agg [.int .i64 s_c, .int .i64 s_r, .int .i64 s_m, .slice (encPreds s_f)]] fr st = some (.ok (retE none (.bool (mayS (⟨s_c, s_r, s_m, s_f⟩ : Sub)))) fr st) :=
  call_pure rfl fi211_eq rfl (fun st => c111 (⟨s_c, s_r, s_m, s_f⟩ : Sub) h_f st) (by simp)
theorem x111 : gS.ext 111 = none := rfl
theorem p111 : fi111.pure = true := rfl
def fi22 : FI := { body := codeOf Try.f22, ntmps := 51, results := [.tmp 6], pers := [0, 1, 2, 6, 7, 9, 33, 34, 35], locals := [], pure := true, marks := [1000000] }
theorem fi62_eq : gS.fn 22 = some fi22 := by kernel_rfl
theorem st22 (a0 a1 a2 : V) : startFr fi22 [a0, a1, a2] = { ps := [(0, .val a0), (1, .val a1), (2, .val a2), (6, .any), (7, .any), (9, .any), (33, .any), (34, .any), (35, .any)], ts := [], lc := [] } := rfl
def b22 : Code := mini (codeOf Try.f22)
def c22_8 : Code := .seq (codeN b22 75) .ret
def c22_7 : Code := .cond (.tmp 27) c22_8 .skip
def c22_5 : Code := .seq (codeN b22 19) c22_7
def c22_30 : Code := codeN b22 22935
def c22_29 : Code := .cond (.tmp 45) c22_30 .skip
def c22_27 : Code := .seq (codeN b22 10647) c22_29
def c22_25 : Code := .seq (codeN b22 4503) c22_27
def c22_32 : Code := codeN b22 1943
def c22_23 : Code := .seq (.block 1 c22_25) c22_32
def c22_19 : Code := .seq (.cond (.tmp 36) .skip (.exit 0)) c22_23
def c22_17 : Code := .seq (codeN b22 279) c22_19
def c22_16 : Code := .loop c22_17
def c22_15 : Code := .block 0 c22_16
def c22_13 : Code := .seq (codeN b22 39) c22_15
def c22_33 : Code := .seq (codeN b22 47) .ret
def c22_12 : Code := .seq c22_13 c22_33
def c22_4 : Code := .seq c22_5 c22_12
def c22_2 : Code := .seq (codeN b22 5) c22_4
def c22_0 : Code := .seq (codeN b22 2) c22_2
theorem E22 : (evK gS fi22 c22_8 fr st k = opsR gS fi22 [mv 28 7 22,
 asn 6 28 22] fr st (.seq .ret k)) ∧
 evK gS fi22 c22_7 fr st k = condK gS fi22 (fr.op (.tmp 27)).bool? c22_8 .skip fr st k ∧
 (evK gS fi22 c22_5 fr st k = opsR gS fi22 [mv 10 1 3,
 op1 11 (.binOp .lss 3 (.tmp 10) (.const (.int .i64 0)) 3) 4,
 mv 12 11 4,
 mk (some 13) (.move (.tmp 1)) 3 (some (2, false)),
 mk (some 14) (.move (.tmp 0)) 32 (some (2, false)),
 mk (some 15) (.call { callee := (.builtin .len), args := #[(.tmp 14)], argTypes := #[32] }) 3 (some (2, false)),
 mk (some 16) (.binOp .geq 3 (.tmp 13) (.tmp 15) 3) 4 (some (2, false)),
 op1 17 (.pick (.tmp 12) (.const (.bool true)) (.tmp 16)) 4,
 mv 18 17 4,
 mk (some 19) (.move (.tmp 2)) 3 (some (8, false)),
 mk (some 20) (.binOp .lss 3 (.tmp 19) (.const (.int .i64 0)) 3) 4 (some (8, false)),
 op1 21 (.pick (.tmp 18) (.const (.bool true)) (.tmp 20)) 4,
 mv 22 21 4,
 mk (some 23) (.move (.tmp 2)) 3 (some (12, false)),
 mk (some 24) (.move (.tmp 0)) 32 (some (12, false)),
 mk (some 25) (.call { callee := (.builtin .len), args := #[(.tmp 24)], argTypes := #[32] }) 3 (some (12, false)),
 mk (some 26) (.binOp .geq 3 (.tmp 23) (.tmp 25) 3) 4 (some (12, false)),
 op1 27 (.pick (.tmp 22) (.const (.bool true)) (.tmp 26)) 4] fr st (.seq c22_7 k)) ∧
 (evK gS fi22 c22_30 fr st k = opsR gS fi22 [mv 46 7 22,
 mv 47 9 3,
 cal 48 51 [(.tmp 46), (.tmp 47)] [22, 3] 22,
 asn 7 48 22] fr st k) ∧
 evK gS fi22 c22_29 fr st k = condK gS fi22 (fr.op (.tmp 45)).bool? c22_30 .skip fr st k ∧
 (evK gS fi22 c22_27 fr st k = opsR gS fi22 [mv 39 0 32,
 mv 40 2 3,
 ixa 41 32 39 40 0,
 op1 42 (.fieldAddr 39 (.tmp 41) 1) 0,
 ld 43 22 42 22,
 mv 44 9 3,
 cal 45 57 [(.tmp 43), (.tmp 44)] [22, 3] 4] fr st (.seq c22_29 k)) ∧
 (evK gS fi22 c22_25 fr st k = opsR gS fi22 [ixa 37 22 33 35 0,
 ld 38 3 37 3,
 asn 9 38 3] fr st (.seq c22_27 k)) ∧
 (evK gS fi22 c22_32 fr st k = opsR gS fi22 [op1 49 (.binOp .add 3 (.tmp 35) (.const (.int .i64 1)) 3) 3,
 mv 35 49 3] fr st k) ∧
 evK gS fi22 c22_23 fr st k = evK gS fi22 c22_25 fr st (.blk 1 (.seq c22_32 k)) ∧
 evK gS fi22 c22_19 fr st k = condK gS fi22 (fr.op (.tmp 36)).bool? .skip (.exit 0) fr st (.seq c22_23 k) ∧
 evK gS fi22 c22_17 fr st k = opsR gS fi22 [bop 36 .lss 3 35 34 3 0] fr st (.seq c22_19 k) ∧
 evK gS fi22 c22_15 fr st k = evK gS fi22 c22_16 fr st (.blk 0 k) ∧
 (evK gS fi22 c22_13 fr st k = opsR gS fi22 [mv 29 0 32,
 mv 30 1 3,
 ixa 31 32 29 30 0,
 op1 32 (.fieldAddr 39 (.tmp 31) 1) 0,
 ld 33 22 32 22,
 len1 34 33 22 3,
 op1 35 (.move (.const (.int .i64 0))) 3] fr st (.seq c22_15 k)) ∧
 (evK gS fi22 c22_33 fr st k = opsR gS fi22 [mv 50 7 22,
 asn 6 50 22] fr st (.seq .ret k)) ∧
 evK gS fi22 c22_12 fr st k = evK gS fi22 c22_13 fr st (.seq c22_33 k) ∧
 evK gS fi22 c22_4 fr st k = evK gS fi22 c22_5 fr st (.seq c22_12 k) ∧
 evK gS fi22 c22_2 fr st k = opsR gS fi22 [op1 7 (.assign (.const (.slice none 0 0))) 22] fr st (.seq c22_4 k) ∧
 evK gS fi22 c22_0 fr st k = opsR gS fi22 [op1 6 (.assign (.const (.slice none 0 0))) 22] fr st (.seq c22_2 k) := ⟨evK_rs 3 rfl (by kernel_rfl), rfl, evK_rs 2 rfl (by kernel_rfl), evK_r 8 (by kernel_rfl), rfl, evK_rs 7 rfl (by kernel_rfl), evK_rs 6 rfl (by kernel_rfl), evK_r 9 (by kernel_rfl), rfl, rfl, evK_rs 5 rfl (by kernel_rfl), rfl, evK_rs 4 rfl (by kernel_rfl), evK_rs 10 rfl (by kernel_rfl), rfl, rfl, evK_rs 1 rfl (by kernel_rfl), evK_rs 0 rfl (by kernel_rfl)⟩
theorem m22 : mini fi22.body = c22_0 := by kernel_rfl
theorem n22_16 (fr : Fr) (st : St) (k : Kt) : nextK gS fi22 (.loop c22_17 k) .normal fr st = evK gS fi22 c22_16 fr st k := rfl
set_option maxHeartbeats 8000000 in
theorem L22 (g : List Grp) (b : Nat) (v : Grp) (hv : g[b]? = some v) (hvl : v.clients.length < 1000) (cs : List Int) (hcs : cs.length < 1000) (e1 : E) (h1 : e1.Tame) (st : St) :
    ∀ (m i : Nat) (acc : List Int) (e7 e9 e33 : E) (h7 : OutE e7 acc) (h9 : e9.Tame) (h33 : e33.calm = .val (.slice (intVs cs))) (T : List (Nat × E)) (X : List (Nat × List V)), i ≤ cs.length → cs.length - i = m → acc.length + (cs.length - i) < 1000000 →
    evK gS fi22 c22_16 { ps := [(0, .val (.slice (encGrps g))), (1, e1), (2, .val (.int .i64 (b : Nat))), (6, .own 0 []), (7, e7), (9, e9), (33, e33), (34, .val (.int .i64 cs.length)), (35, .val (.int .i64 (i : Nat)))], ts := T, lc := X } st (.blk 0 (.seq c22_33 .nil)) = some (.ret (.slice (intVs (bothI v.clients (cs.drop i) acc))) none, st) := by
  intro m
  have hm : fi22.marks = [1000000] := rfl
  have hl : fi22.locals = [] := rfl
  have hr : fi22.results = [.tmp 6] := rfl
  have hz := fun xs st => frz_slice (xs := intVs xs) (flats_ints xs) st
  obtain ⟨v1, v2⟩ := List.getElem?_eq_some_iff.1 hv
  have v3 : (b : Int) < (g.length : Int) := by omega
  induction m with
  | zero =>
    intro i acc e7 e9 e33 h7 h9 h33 T X hi hm2 hb
    obtain rfl : i = cs.length := by omega
    rw [List.drop_length, show bothI v.clients [] acc = acc from rfl]
    refine evK_loop c22_17 _ _ _ _ rfl ?_
    rcases h7 with ⟨rfl, rfl⟩ | rfl
    · have hz0 := hz []
      rw [show intVs [] = [] from rfl] at hz0
      simp [h1, h9, h33, hz0, show intVs [] = [] from rfl, -Int.not_le, -Int.not_lt, -Nat.not_le, -Nat.not_lt, ty3, ty4, ty22, ty32, ty39, hm, hl, hr, E22, n22_16]
    · simp [h1, h9, h33, hz, -Int.not_le, -Int.not_lt, -Nat.not_le, -Nat.not_lt, ty3, ty4, ty22, ty32, ty39, hm, hl, hr, E22, n22_16]
  | succ m ih =>
    intro i acc e7 e9 e33 h7 h9 h33 T X hi hm2 hb
    obtain ⟨x, hx⟩ : ∃ x, cs[i]? = some x := ⟨cs[i]'(by omega), List.getElem?_eq_getElem (by omega)⟩
    have hd := drop_get hx
    have hlt : (i : Int) < (cs.length : Int) := by omega
    obtain ⟨hlt2, hxe⟩ := List.getElem?_eq_some_iff.1 hx
    have hw : IntKind.wrap .i64 ((i : Int) + 1) = ((i + 1 : Nat) : Int) := by rw [wrap64 (by omega) (by omega)]; omega
    have hll := layI_len acc x
    rw [hd, show bothI v.clients (x :: cs.drop (i + 1)) acc = bothI v.clients (cs.drop (i + 1)) (if hasI v.clients x = true then layI acc x else acc) from rfl]
    have kh := fun (fr : Fr) (st : St) => k57 v.clients x (by omega) fr st
    have kl := fun (fr : Fr) (st : St) => k51 acc (by omega) x fr st
    have IH := fun acc' e7 e9 h7 h9 T X hl => ih (i + 1) acc' e7 e9 (.val (.slice (intVs cs))) h7 h9 rfl T X (by omega) (by omega) hl
    generalize hasI v.clients x = t at *
    refine evK_loop c22_17 _ _ _ _ rfl ?_
    cases t with
    | true =>
      have I1 := fun e9 h9 T X => IH (layI acc x) _ e9 (.inr rfl) h9 T X (by omega)
      rcases h7 with ⟨rfl, rfl⟩ | rfl
      · rw [show intVs [] = [] from rfl] at kl
        simp [-Int.natCast_add, h1, h9, h33, hx, hxe, hlt, hlt2, hw, kh, kl, hv, v1, v2, v3, -Int.not_le, -Int.not_lt, -Nat.not_le, -Nat.not_lt, ty3, ty4, ty22, ty32, ty39, hm, hl, hr, E22, n22_16]
        exact I1 _ (tame_val _) _ _
      · simp [-Int.natCast_add, h1, h9, h33, hx, hxe, hlt, hlt2, hw, kh, kl, hv, v1, v2, v3, -Int.not_le, -Int.not_lt, -Nat.not_le, -Nat.not_lt, ty3, ty4, ty22, ty32, ty39, hm, hl, hr, E22, n22_16]
        exact I1 _ (tame_val _) _ _
    | false =>
      have I2 := fun e7 e9 h7 h9 T X => IH acc e7 e9 h7 h9 T X (by omega)
      rcases h7 with ⟨rfl, rfl⟩ | rfl
      · simp [-Int.natCast_add, h1, h9, h33, hx, hxe, hlt, hlt2, hw, kh, hv, v1, v2, v3, -Int.not_le, -Int.not_lt, -Nat.not_le, -Nat.not_lt, ty3, ty4, ty22, ty32, ty39, hm, hl, hr, E22, n22_16]
        exact I2 _ _ (.inl ⟨rfl, rfl⟩) (tame_val _) _ _
      · simp [-Int.natCast_add, h1, h9, h33, hx, hxe, hlt, hlt2, hw, kh, hv, v1, v2, v3, -Int.not_le, -Int.not_lt, -Nat.not_le, -Nat.not_lt, ty3, ty4, ty22, ty32, ty39, hm, hl, hr, E22, n22_16]
        exact I2 _ _ (.inr rfl) (tame_val _) _ _
set_option maxHeartbeats 8000000 in
theorem c22 (g : List Grp) (a b : Nat) (u v : Grp) (hu : g[a]? = some u) (hv : g[b]? = some v) (hul : u.clients.length < 1000) (hvl : v.clients.length < 1000) (st : St) :
    EvF gS 22 [.slice (encGrps g), .int .i64 (a : Nat), .int .i64 (b : Nat)] st = some (.ret (.slice (intVs (bothI v.clients u.clients []))) none, st) := by
  refine EvF_start fi62_eq (fun x h => by cases h) m22 ?_
  rw [st22]
  have hm : fi22.marks = [1000000] := rfl
  have hl : fi22.locals = [] := rfl
  have hr : fi22.results = [.tmp 6] := rfl
  obtain ⟨u1, u2⟩ := List.getElem?_eq_some_iff.1 hu
  have u3 : (a : Int) < (g.length : Int) := by omega
  obtain ⟨v1, v2⟩ := List.getElem?_eq_some_iff.1 hv
  have v3 : (b : Int) < (g.length : Int) := by omega
  have n1 : ¬ (a : Int) < 0 := by omega
  have n2 : ¬ (b : Int) < 0 := by omega
  have n3 : ¬ (g.length : Int) ≤ (a : Int) := by omega
  have n4 : ¬ (g.length : Int) ≤ (b : Int) := by omega
  have LL := fun e1 h1 e9 e33 h9 h33 T X => L22 g b v hv hvl u.clients hul e1 h1 st u.clients.length 0 [] (.own 0 []) e9 e33 (.inl ⟨rfl, rfl⟩) h9 h33 T X (Nat.zero_le _) rfl (by simp; omega)
  simp only [show ((0 : Nat) : Int) = 0 from rfl, List.drop_zero] at LL
  simp [-Int.natCast_add, u1, u2, u3, v1, v3, n1, n2, n3, n4, hu, LL, -Int.not_le, -Int.not_lt, -Nat.not_le, -Nat.not_lt, ty3, ty4, ty22, ty32, ty39, hm, hl, hr, E22, n22_16]
theorem k22 (g : List Grp) (a b : Nat) (u v : Grp) (hu : g[a]? = some u) (hv : g[b]? = some v) (hul : u.clients.length < 1000) (hvl : v.clients.length < 1000) (fr : Fr) (st : St) :
    callStep gS (EvF gS) 22 [.slice (encGrps g), .int .i64 (a : Nat), .int .i64 (b : Nat)] fr st = some (.ok (.val (.slice (intVs (bothI v.clients u.clients [])))) fr st) :=
  call_pure rfl fi62_eq rfl (fun st => c22 g a b u v hu hv hul hvl st) (by simp [V.flat])
end
end Go.Proofs.Ytdoobejjedpcgaa
namespace Go.Ab
open Go
set_option linter.unusedVariables false
set_option linter.unusedSimpArgs false
set_option linter.unnecessarySimpa false
/-- An object is given up, a new one lies in its place. -/
def apS (S : St) (id : Nat) (cs : List V) : St := { objs := S.objs.set id [] ++ [cs], wp := S.wp }
theorem apS_len (S : St) (id : Nat) (cs : List V) : (apS S id cs).objs.length = S.objs.length + 1 := by simp [apS]
theorem apS_wp (S : St) (id : Nat) (cs : List V) : (apS S id cs).wp = S.wp := rfl
theorem apS_new (S : St) (id : Nat) (cs : List V) : St.obj (apS S id cs) S.objs.length = some cs := by simp [apS, St.obj]
theorem apS_old (S : St) (id : Nat) (cs : List V) {i : Nat} (h : i ≠ id) (hi : i < S.objs.length) : St.obj (apS S id cs) i = St.obj S i := by
  simp only [apS, St.obj]
  rw [List.getElem?_append_left (by simpa using hi), List.getElem?_set_ne (Ne.symm h)]
theorem set_some {S : St} {id : Nat} (h : S.wp ≤ id) (cs : List V) : St.set S id cs = some { objs := S.objs.set id cs, wp := S.wp } := by unfold St.set; rw [if_pos h]
theorem newRef_ap (S : St) (id : Nat) (fr : Fr) (k len : Nat) (cs : List V) : newRef fr { objs := S.objs.set id [], wp := S.wp } k len cs = .ok (.val (.sref false k S.objs.length 0 len)) fr (apS S id cs) := by
  simp [newRef, apS]
theorem newRef_nw (S : St) (fr : Fr) (k len : Nat) (cs : List V) : newRef fr S k len cs = .ok (.val (.sref false k S.objs.length 0 len)) fr (nw S 0 cs) := by
  simp [newRef, nw]
theorem nw_obj0 (S : St) (cs : List V) : St.obj (nw S 0 cs) S.objs.length = some cs := by simp [nw, St.obj]
theorem nw_old (S : St) (cs : List V) {i : Nat} (hi : i < S.objs.length) : St.obj (nw S 0 cs) i = St.obj S i := by
  simp only [nw, St.obj]
  rw [List.getElem?_append_left hi]
/-- Numbers are appended to a row, one by one. -/
def apAll : List Int → St → Nat → List Int → St × Nat
  | [], S, id, _ => (S, id)
  | x :: r, S, id, acc => apAll r (apS S id (intVs (acc ++ [x]))) S.objs.length (acc ++ [x])
theorem apAll_facts : ∀ (r : List Int) (S : St) (id : Nat) (acc : List Int), S.wp ≤ id → id < S.objs.length → St.obj S id = some (intVs acc) →
    St.obj (apAll r S id acc).1 (apAll r S id acc).2 = some (intVs (acc ++ r)) ∧ (apAll r S id acc).1.wp = S.wp ∧ S.wp ≤ (apAll r S id acc).2 ∧ (apAll r S id acc).2 < (apAll r S id acc).1.objs.length ∧ S.objs.length ≤ (apAll r S id acc).1.objs.length ∧
      id ≤ (apAll r S id acc).2 ∧ ∀ i, i ≠ id → i < S.objs.length → St.obj (apAll r S id acc).1 i = St.obj S i
  | [], S, id, acc, h1, h2, h3 => by rw [List.append_nil]; exact ⟨h3, rfl, h1, h2, Nat.le_refl _, Nat.le_refl _, fun _ _ _ => rfl⟩
  | x :: r, S, id, acc, h1, h2, h3 => by
    obtain ⟨a1, a2, a3, a4, a5, a6, a7⟩ := apAll_facts r (apS S id (intVs (acc ++ [x]))) S.objs.length (acc ++ [x]) (by rw [apS_wp]; omega) (by rw [apS_len]; omega) (apS_new _ _ _)
    rw [apS_wp] at a2 a3
    rw [apS_len] at a5 a7
    simp only [apAll]
    rw [List.append_assoc, List.singleton_append] at a1
    exact ⟨a1, a2, a3, a4, by omega, by omega, fun i hi hl => by rw [a7 i (by omega) (by omega), apS_old _ _ _ hi hl]⟩
/-- How much of two ways is left when what they share at their ends is left out, but for its lowest broker. -/
def trimN (A B : List Int) : Nat → Nat → Nat → Nat × Nat
  | 0, a, b => (a, b)
  | k + 1, a, b => if 1 < a ∧ 1 < b ∧ A[a - 2]? = B[b - 2]? then trimN A B k (a - 1) (b - 1) else (a, b)
theorem trimN_le (A B : List Int) : ∀ (k a b : Nat), 0 < a → 0 < b → (trimN A B k a b).1 ≤ a ∧ (trimN A B k a b).2 ≤ b ∧ 0 < (trimN A B k a b).1 ∧ 0 < (trimN A B k a b).2
  | 0, a, b, h1, h2 => ⟨Nat.le_refl _, Nat.le_refl _, h1, h2⟩
  | k + 1, a, b, h1, h2 => by
    unfold trimN
    split
    · have := trimN_le A B k (a - 1) (b - 1) (by omega) (by omega)
      omega
    · exact ⟨Nat.le_refl _, Nat.le_refl _, h1, h2⟩
def joinT (A B : List Int) : List Int := A.take (trimN A B 100 A.length B.length).1 ++ (B.take ((trimN A B 100 A.length B.length).2 - 1)).reverse
def pathT (p : List Int) (a b : Nat) : List Int := joinT (upP p a) (upP p b)
def distT (p : List Int) (a b : Int) : Int := if isT p a && isT p b then ((pathT p a.toNat b.toNat).length : Int) - 1 else -1
/-- The ways to all of some places, in sum; none, if one is no place. -/
def sumT (p : List Int) (x : Int) : List Int → Int → Option Int
  | [], s => some s
  | y :: l, s => if distT p x y < 0 then none else sumT p x l (s + distT p x y)
/-- The first broker whose ways to the places are least in sum. -/
def placeL (p l : List Int) : Nat → Nat → Int → Int → Int
  | 0, _, best, _ => best
  | n + 1, x, best, least => match sumT p x l 0 with
    | none => -1
    | some s => if best < 0 ∨ s < least then placeL p l n (x + 1) x s else placeL p l n (x + 1) best least
def placeT (p l : List Int) : Int := if l = [] then -1 else placeL p l (p.length + 1) 0 (-1) 0
theorem upP_len (p : List Int) (b : Nat) : 0 < (upP p b).length ∧ (upP p b).length ≤ b + 1 := by
  have := upF_len p b b
  simp only [upP, List.length_cons]; omega
theorem joinT_len (A B : List Int) (h1 : 0 < A.length) (h2 : 0 < B.length) : 0 < (joinT A B).length ∧ (joinT A B).length ≤ A.length + B.length := by
  have := trimN_le A B 100 A.length B.length h1 h2
  simp only [joinT, List.length_append, List.length_take, List.length_reverse]
  omega
theorem distT_range (p : List Int) (a b : Int) : -1 ≤ distT p a b ∧ distT p a b ≤ 20 := by
  unfold distT
  split
  · rename_i h
    simp only [isT, rightT, Bool.and_eq_true, decide_eq_true_eq] at h
    have h1 := upP_len p a.toNat
    have h2 := upP_len p b.toNat
    have h3 := joinT_len (upP p a.toNat) (upP p b.toNat) h1.1 h2.1
    unfold pathT
    omega
  · omega
theorem frz_ref {S : St} {id len : Nat} {l : List Int} (h : St.obj S id = some (intVs l)) (hw : S.wp ≤ id) (h0 : 0 < len) (hl : len ≤ l.length) :
    frz 6 S (.sref false 1 id 0 len) = some (.slice (intVs (l.take len)), { objs := S.objs.set id [], wp := S.wp }) := by
  have hstrip : ∀ l : List Int, (intVs l).map V.strip1 = intVs l := fun l => by simp only [intVs, List.map_map]; rfl
  have hone : ∀ l : List Int, (intVs l).all V.one = true := fun l => by simp [intVs, V.one]
  have hch : ∀ (l : List Int), chunk false 1 l.length (intVs l) = intVs l := by
    intro l
    induction l with
    | nil => rfl
    | cons x r ih => simp only [intVs, List.map_cons, List.length_cons, chunk, elemV] at ih ⊢; simp [ih]
  have hfl : ∀ (n : Nat) (S : St) (l : List Int), frzL (frz n) S (intVs l) = some (intVs l, S) := fun n S l => frzL_flat n S _ (flats_ints l)
  unfold frz
  simp only [h, set_some hw, Nat.mul_one, List.drop_zero, ints_take, hstrip, hfl, hone]
  rw [if_neg (by omega), if_pos (by constructor <;> simp; omega)]
  have hll : (l.take len).length = len := by simp; omega
  have := hch (l.take len)
  rw [hll] at this
  have hb : Nat.blt 1 1 = false := rfl
  rw [if_pos (by constructor <;> simp; omega), hb, this]
/-- What lies there when the way up has been told, and where the way lies. -/
def upS (p : List Int) (b : Nat) (S : St) : St × Nat := apAll (upF p b b) (nw S 0 (intVs [(b : Int)])) S.objs.length [(b : Int)]
theorem upS_facts (p : List Int) (b : Nat) (S : St) (h : S.wp ≤ S.objs.length) : St.obj (upS p b S).1 (upS p b S).2 = some (intVs (upP p b)) ∧ (upS p b S).1.wp = S.wp ∧ S.wp ≤ (upS p b S).2 ∧ (upS p b S).2 < (upS p b S).1.objs.length ∧ S.objs.length ≤ (upS p b S).2 ∧
    ∀ i, i < S.objs.length → St.obj (upS p b S).1 i = St.obj S i := by
  have hl : (nw S 0 (intVs [(b : Int)])).objs.length = S.objs.length + 1 := by simp [nw]
  obtain ⟨a1, a2, a3, a4, a5, a6, a7⟩ := apAll_facts (upF p b b) (nw S 0 (intVs [(b : Int)])) S.objs.length [(b : Int)] h (by rw [hl]; omega) (nw_obj0 _ _)
  exact ⟨a1, a2, a3, a4, a6, fun i hi => (a7 i (by omega) (by omega)).trans (nw_old _ _ hi)⟩
/-- The row is appended to and given up. -/
def finS (r : List Int) (S : St) (id : Nat) (acc : List Int) : St := { objs := (apAll r S id acc).1.objs.set (apAll r S id acc).2 [], wp := (apAll r S id acc).1.wp }
theorem ints_strip (l : List Int) : (intVs l).map V.strip1 = intVs l := by simp only [intVs, List.map_map]; rfl
theorem ints_one (l : List Int) : (intVs l).all V.one = true := by simp [intVs, V.one]
end Go.Ab
