/- The law of sides, with all that it rests on. Part 6. -/
import Derived.Test.YtdoobejjedpcgaaK5
namespace Go.Proofs.Ytdoobejjedpcgaa
open Go Go.Ab
set_option linter.unusedVariables false
set_option linter.unusedSimpArgs false
set_option linter.unnecessarySimpa false
set_option maxRecDepth 20000
noncomputable section
variable (fr : Fr) (st : St) (k : Kt)
def fi48 : FI := { body := codeOf Try.f48, ntmps := 25, results := [.tmp 2], pers := [0, 2, 3, 4, 5], locals := [5], pure := true, marks := [] }
theorem fi51_eq : gS.fn 48 = some fi48 := by kernel_rfl
theorem st48 (a0 : V) : startFr fi48 [a0] = { ps := [(0, .val a0), (2, .any), (3, .any), (4, .any), (5, .any)], ts := [], lc := [] } := rfl
def b48 : Code := mini (codeOf Try.f48)
def c48_12 : Code := .cond (.tmp 9) .skip (.exit 0)
def c48_10 : Code := .seq (codeN b48 267) c48_12
def c48_21 : Code := codeN b48 3659
def c48_19 : Code := .seq (codeN b48 2635) c48_21
def c48_17 : Code := .seq (codeN b48 1099) c48_19
def c48_22 : Code := codeN b48 459
def c48_15 : Code := .seq (.block 1 c48_17) c48_22
def c48_9 : Code := .seq c48_10 c48_15
def c48_8 : Code := .loop c48_9
def c48_7 : Code := .block 0 c48_8
def c48_5 : Code := .seq (codeN b48 19) c48_7
def c48_23 : Code := .seq (codeN b48 23) .ret
def c48_4 : Code := .seq c48_5 c48_23
def c48_2 : Code := .seq (codeN b48 5) c48_4
def c48_0 : Code := .seq (codeN b48 2) c48_2
theorem E48 : evK gS fi48 c48_12 fr st k = condK gS fi48 (fr.op (.tmp 9)).bool? .skip (.exit 0) fr st k ∧
 (evK gS fi48 c48_10 fr st k = opsR gS fi48 [mv 6 4 3,
 mv 7 0 29,
 len1 8 7 29 3,
 bop 9 .lss 3 6 8 3 4] fr st (.seq c48_12 k)) ∧
 (evK gS fi48 c48_21 fr st k = opsR gS fi48 [mv 20 3 29,
 ld 21 91 5 91,
 op1 22 (.buildSlice 29 1 #[(0, (.tmp 21))]) 29,
 op1 23 (.call { callee := (.builtin .append), args := #[(.tmp 20), (.tmp 22)], argTypes := #[29, 29] }) 29,
 asn 3 23 29] fr st k) ∧
 (evK gS fi48 c48_19 fr st k = opsR gS fi48 [op1 16 (.fieldAddr 91 (.tmp 5) 4) 0,
 ld 17 89 16 89,
 op1 18 (.call { callee := (.builtin .append), args := #[(.const (.slice none 0 0)), (.tmp 17)], argTypes := #[89, 89] }) 89,
 op1 19 (.fieldAddr 91 (.tmp 5) 4) 0,
 sto 89 19 18] fr st (.seq c48_21 k)) ∧
 (evK gS fi48 c48_17 fr st k = opsR gS fi48 [mv 12 0 29,
 mv 13 4 3,
 ixa 14 29 12 13 0,
 ld 15 91 14 91,
 op1 5 (.alloc 91) 0,
 sto 91 5 15] fr st (.seq c48_19 k)) ∧
 (evK gS fi48 c48_22 fr st k = opsR gS fi48 [mv 10 4 3,
 op1 11 (.binOp .add 3 (.tmp 10) (.const (.int .i64 1)) 3) 3,
 asn 4 11 3] fr st k) ∧
 evK gS fi48 c48_15 fr st k = evK gS fi48 c48_17 fr st (.blk 1 (.seq c48_22 k)) ∧
 evK gS fi48 c48_9 fr st k = evK gS fi48 c48_10 fr st (.seq c48_15 k) ∧
 evK gS fi48 c48_7 fr st k = evK gS fi48 c48_8 fr st (.blk 0 k) ∧
 evK gS fi48 c48_5 fr st k = opsR gS fi48 [op1 4 (.assign (.const (.int .i64 0))) 3] fr st (.seq c48_7 k) ∧
 (evK gS fi48 c48_23 fr st k = opsR gS fi48 [mv 24 3 29,
 asn 2 24 29] fr st (.seq .ret k)) ∧
 evK gS fi48 c48_4 fr st k = evK gS fi48 c48_5 fr st (.seq c48_23 k) ∧
 evK gS fi48 c48_2 fr st k = opsR gS fi48 [op1 3 (.assign (.const (.slice none 0 0))) 29] fr st (.seq c48_4 k) ∧
 evK gS fi48 c48_0 fr st k = opsR gS fi48 [op1 2 (.assign (.const (.slice none 0 0))) 29] fr st (.seq c48_2 k) := ⟨rfl, evK_rs 3 rfl (by kernel_rfl), evK_r 7 (by kernel_rfl), evK_rs 6 rfl (by kernel_rfl), evK_rs 5 rfl (by kernel_rfl), evK_r 4 (by kernel_rfl), rfl, rfl, rfl, evK_rs 2 rfl (by kernel_rfl), evK_rs 8 rfl (by kernel_rfl), rfl, evK_rs 1 rfl (by kernel_rfl), evK_rs 0 rfl (by kernel_rfl)⟩
theorem m48 : mini fi48.body = c48_0 := by kernel_rfl
theorem n48_8 (fr : Fr) (st : St) (k : Kt) : nextK gS fi48 (.loop c48_9 k) .normal fr st = evK gS fi48 c48_8 fr st k := rfl
theorem preds_snoc (l : List Pred) (x : Pred) : encPreds l ++ [.agg [.str x.name, .int .i64 x.test, .int .i64 x.v.kind, .int .i64 x.v.n, .float .f64 x.v.x, .str x.v.s, .bool x.v.b, .int .i64 x.w.kind, .int .i64 x.w.n, .float .f64 x.w.x, .str x.w.s, .bool x.w.b, .slice (encVals x.set)]] = encPreds (l ++ [x]) := by simp [encPreds]
/-- How much room a row's cells take that was laid one by one. -/
def kof {α : Type} (k : Nat) (l : List α) : Nat := if l = [] then 0 else k
set_option maxHeartbeats 8000000 in
theorem L48 (f : List Pred) (h_f : PSm f) (st : St) : ∀ (n i : Nat) (e5 : E) (T : List (Nat × E)) (X : List (Nat × List V)) (ht5 : e5.Tame), i ≤ f.length → f.length - i = n →
    evK gS fi48 c48_8 { ps := [(0, .val (.slice (encPreds f))), (2, .own 0 []), (3, .own (kof 13 (f.take i)) (encPreds (f.take i))), (4, .val (.int .i64 i)), (5, e5)], ts := T, lc := X } st (.blk 0 (.seq c48_23 .nil)) = some (.ret (.slice (encPreds f)) (some (kof 13 f)), st) := by
  intro n
  have hm : fi48.marks = [] := rfl
  have hl : fi48.locals = [5] := rfl
  have hr : fi48.results = [.tmp 2] := rfl
  have hfl := h_f.1
  induction n with
  | zero =>
    intro i e5 T X ht5 hi hn
    obtain rfl : i = f.length := by omega
    refine evK_loop c48_9 _ _ _ _ rfl ?_
    rw [List.take_length]
    by_cases hfe : f = []
    · subst hfe
      simp [ht5, kof, encPreds, -Int.not_le, -Int.not_lt, -Nat.not_le, -Nat.not_lt, ty3, ty4, ty29, ty89, ty91, hm, hl, hr, E48, n48_8]
    · have hk : kof 13 f = 13 := by unfold kof; rw [if_neg hfe]
      rw [hk]
      simp [ht5, -Int.not_le, -Int.not_lt, -Nat.not_le, -Nat.not_lt, ty3, ty4, ty29, ty89, ty91, hm, hl, hr, E48, n48_8]
  | succ n ih =>
    intro i e5 T X ht5 hi hn
    obtain ⟨x, hx⟩ : ∃ x, f[i]? = some x := ⟨f[i]'(by omega), List.getElem?_eq_getElem (by omega)⟩
    have hlt : (i : Int) < (f.length : Int) := by omega
    have hlt2 : i < f.length := by omega
    have hxe : f[i]'hlt2 = x := by rw [List.getElem?_eq_getElem hlt2] at hx; exact Option.some.inj hx
    have hw : IntKind.wrap .i64 ((i : Int) + 1) = ((i + 1 : Nat) : Int) := by rw [wrap64 (by omega) (by omega)]; omega
    have hxs := (h_f.2 x (List.mem_of_getElem? hx)).2
    have hxs2 : x.set.length ≤ 140737488355328 := by omega
    have htk : f.take (i + 1) = f.take i ++ [x] := by rw [List.take_succ_eq_append_getElem hlt2, hxe]
    have IH := fun e5 T X ht5 => ih (i + 1) e5 T X ht5 (by omega) (by omega)
    have hk1 : kof 13 (f.take (i + 1)) = 13 := by rw [htk]; simp [kof]
    rw [hk1, htk] at IH
    have hsv := sizes_vals x.set
    have hsp := sizes_preds (f.take i)
    have hsn := preds_snoc (f.take i) x
    have hln : (f.take i).length = i := by simp; omega
    have b1 : (i + 1) * 144 ≤ 140737488355328 := by omega
    have b2 : i + 1 ≤ 140737488355328 := by omega
    have hk0 : kof 13 (f.take i) = 0 ∧ f.take i = [] ∨ kof 13 (f.take i) = 13 := by
      unfold kof; split
      · exact .inl ⟨rfl, by assumption⟩
      · exact .inr rfl
    refine evK_loop c48_9 _ _ _ _ rfl ?_
    generalize hF : f.take i = F at *
    rcases hk0 with ⟨h1, h2⟩ | h1
    · rw [h1, h2]
      rw [h2] at IH
      have hi0 : i = 0 := by rw [← hln, h2]; rfl
      have hsn0 : encPreds [x] = [.agg [.str x.name, .int .i64 x.test, .int .i64 x.v.kind, .int .i64 x.v.n, .float .f64 x.v.x, .str x.v.s, .bool x.v.b, .int .i64 x.w.kind, .int .i64 x.w.n, .float .f64 x.w.x, .str x.w.s, .bool x.w.b, .slice (encVals x.set)]] := rfl
      rw [List.nil_append, hsn0] at IH
      have en : encPreds [] = [] := rfl
      simp [-Int.natCast_add, en, ht5, hx, hxe, hlt, hlt2, hw, hxs, hxs2, hsv, -Int.not_le, -Int.not_lt, -Nat.not_le, -Nat.not_lt, ty3, ty4, ty29, ty89, ty91, hm, hl, hr, E48, n48_8]
      exact IH _ _ _ rfl
    · rw [h1]
      simp [-Int.natCast_add, ht5, hx, hxe, hlt, hlt2, hw, hxs, hxs2, hsv, hsp, hsn, hln, b1, b2, IH, -Int.not_le, -Int.not_lt, -Nat.not_le, -Nat.not_lt, ty3, ty4, ty29, ty89, ty91, hm, hl, hr, E48, n48_8]
set_option maxHeartbeats 8000000 in
theorem c48 (f : List Pred) (h_f : PSm f) (st : St) : EvF gS 48 [.slice (encPreds f)] st = some (.ret (.slice (encPreds f)) (some (kof 13 f)), st) := by
  refine EvF_start fi51_eq (fun x h => by cases h) m48 ?_
  rw [st48]
  have hm : fi48.marks = [] := rfl
  have hl : fi48.locals = [5] := rfl
  have hr : fi48.results = [.tmp 2] := rfl
  have L0 := fun e5 T X ht5 => L48 f h_f st f.length 0 e5 T X ht5 (Nat.zero_le _) rfl
  simp only [show ((0 : Nat) : Int) = 0 from rfl, List.take_zero, show kof 13 ([] : List Pred) = 0 from rfl, show encPreds [] = [] from rfl] at L0
  simp [L0, -Int.not_le, -Int.not_lt, -Nat.not_le, -Nat.not_lt, ty3, ty4, ty29, ty89, ty91, hm, hl, hr, E48, n48_8]
theorem k48 (f : List Pred) (h_f : PSm f) (fr : Fr) (st : St) : callStep gS (EvF gS) 48 [.slice (encPreds f)] fr st = some (.ok (.own (kof 13 f) (encPreds f)) fr st) :=
  call_pure rfl fi51_eq rfl (fun st => c48 f h_f st) (by simp [V.flat])
theorem psm_right {f : List Pred} (h : ∀ p ∈ f, pright p = true) (hl : f.length ≤ 1000000) : PSm f := by
  refine ⟨hl, fun p hp => ?_⟩
  have hr := h p hp
  refine ⟨(ok_of_right hr).1, ?_⟩
  unfold pright at hr
  split at hr
  · repeat' split at hr
    all_goals first
      | (simp only [Bool.and_eq_true, decide_eq_true_eq] at hr; omega)
      | cases hr
  · cases hr
theorem psm_ffv {f : List Pred} (h : FFV f ∧ f.length ≤ 3) : PSm f := psm_right h.1.right (by omega)
theorem kof_snoc {α : Type} (k : Nat) (l : List α) (x : α) : kof k (l ++ [x]) = k := by unfold kof; rw [if_neg (by simp)]
theorem kof_or {α : Type} (k : Nat) (l : List α) : kof k l = 0 ∧ l = [] ∨ kof k l = k := by
  unfold kof; split
  · exact .inl ⟨rfl, by assumption⟩
  · exact .inr rfl
theorem frz_slice {xs : List V} (h : flats xs = true) (st : St) : frz 6 st (.slice xs) = some (.slice xs, st) := frz_flat 6 st _ (by simpa [V.flat] using h)
theorem k50 (f : List Pred) (h_f : PSm f) (fr : Fr) (st : St) : callStep gS (EvF gS) 50 [.slice (encPreds f)] fr st = some (.ok (.val (.slice (encPreds f))) fr st) :=
  call_pure' rfl fi45_eq rfl (by simp [flats, V.flat]) (c50 f h_f ⟨[], 0⟩ (Nat.le_refl _)) (by simp [V.flat])
def fi10 : FI := { body := codeOf Try.f10, ntmps := 59, results := [.tmp 4], pers := [0, 1, 4, 5, 6, 7, 8, 9, 10, 11, 12], locals := [11], pure := false, marks := [1000000] }
theorem fi53_eq : gS.fn 10 = some fi10 := by kernel_rfl
theorem st10 (a0 a1 : V) : startFr fi10 [a0, a1] = { ps := [(0, .val a0), (1, .val a1), (4, .any), (5, .any), (6, .any), (7, .any), (8, .any), (9, .any), (10, .any), (11, .any), (12, .any)], ts := [], lc := [] } := rfl
def b10 : Code := mini (codeOf Try.f10)
def c10_14 : Code := .cond (.tmp 19) .skip (.exit 0)
def c10_12 : Code := .seq (codeN b10 535) c10_14
def c10_30 : Code := .cond (.tmp 30) .skip (.exit 2)
def c10_28 : Code := .seq (codeN b10 138391) c10_30
def c10_45 : Code := codeN b10 23895191
def c10_44 : Code := .cond (.tmp 47) c10_45 .skip
def c10_42 : Code := .seq (codeN b10 11312279) c10_44
def c10_40 : Code := .seq (codeN b10 5020823) c10_42
def c10_47 : Code := codeN b10 3972247
def c10_39 : Code := .seq c10_40 c10_47
def c10_37 : Code := .seq (codeN b10 1350807) c10_39
def c10_35 : Code := .seq (codeN b10 564375) c10_37
def c10_48 : Code := codeN b10 236695
def c10_33 : Code := .seq (.block 3 c10_35) c10_48
def c10_27 : Code := .seq c10_28 c10_33
def c10_26 : Code := .loop c10_27
def c10_25 : Code := .block 2 c10_26
def c10_23 : Code := .seq (codeN b10 11415) c10_25
def c10_21 : Code := .seq (codeN b10 5271) c10_23
def c10_19 : Code := .seq (codeN b10 2199) c10_21
def c10_49 : Code := codeN b10 919
theorem e10_49 : evK gS fi10 c10_49 fr st k = opsR gS fi10 [mv 20 7 3,
 op1 21 (.binOp .add 3 (.tmp 20) (.const (.int .i64 1)) 3) 3,
 asn 7 21 3] fr st k := evK_r 5 (by kernel_rfl)
def c10_17 : Code := .seq (.block 1 c10_19) c10_49
def c10_11 : Code := .seq c10_12 c10_17
def c10_10 : Code := .loop c10_11
def c10_9 : Code := .block 0 c10_10
def c10_7 : Code := .seq (codeN b10 39) c10_9
def c10_50 : Code := .seq (codeN b10 47) .ret
def c10_6 : Code := .seq c10_7 c10_50
def c10_4 : Code := .seq (codeN b10 11) c10_6
def c10_2 : Code := .seq (codeN b10 5) c10_4
def c10_0 : Code := .seq (codeN b10 2) c10_2
theorem E10 : evK gS fi10 c10_14 fr st k = condK gS fi10 (fr.op (.tmp 19)).bool? .skip (.exit 0) fr st k ∧
 (evK gS fi10 c10_12 fr st k = opsR gS fi10 [mv 18 7 3,
 op1 19 (.binOp .leq 3 (.tmp 18) (.const (.int .i64 6)) 3) 4] fr st (.seq c10_14 k)) ∧
 evK gS fi10 c10_30 fr st k = condK gS fi10 (fr.op (.tmp 30)).bool? .skip (.exit 2) fr st k ∧
 (evK gS fi10 c10_28 fr st k = opsR gS fi10 [mv 29 10 3,
 op1 30 (.binOp .gtr 3 (.tmp 29) (.const (.int .i64 0)) 3) 4] fr st (.seq c10_30 k)) ∧
 (evK gS fi10 c10_45 fr st k = opsR gS fi10 [mv 48 6 77,
 mv 49 12 3,
 ixa 50 77 48 49 0,
 ld 51 29 50 29,
 cal 52 48 [(.tmp 51)] [29] 29,
 op1 53 (.fieldAddr 31 (.tmp 11) 3) 0,
 sto 29 53 52] fr st k) ∧
 evK gS fi10 c10_44 fr st k = condK gS fi10 (fr.op (.tmp 47)).bool? c10_45 .skip fr st k ∧
 (evK gS fi10 c10_42 fr st k = opsR gS fi10 [mv 46 12 3,
 op1 47 (.binOp .lss 3 (.tmp 46) (.const (.int .i64 3)) 3) 4] fr st (.seq c10_44 k)) ∧
 (evK gS fi10 c10_40 fr st k = opsR gS fi10 [mv 44 0 23,
 cal 45 11 [(.tmp 44), (.const (.int .i64 6))] [23, 3] 3,
 asn 12 45 3] fr st (.seq c10_42 k)) ∧
 (evK gS fi10 c10_47 fr st k = opsR gS fi10 [mv 54 5 26,
 ld 55 31 11 31,
 op1 56 (.buildSlice 26 1 #[(0, (.tmp 55))]) 26,
 op1 57 (.call { callee := (.builtin .append), args := #[(.tmp 54), (.tmp 56)], argTypes := #[26, 26] }) 26,
 asn 5 57 26] fr st k) ∧
 evK gS fi10 c10_39 fr st k = evK gS fi10 c10_40 fr st (.seq c10_47 k) ∧
 (evK gS fi10 c10_37 fr st k = opsR gS fi10 [mv 38 7 3,
 mv 39 8 3,
 mv 40 9 3,
 mv 41 0 23,
 cal 42 40 [(.tmp 41)] [23] 29,
 op1 43 (.build 31 #[(0, (.tmp 38)), (1, (.tmp 39)), (2, (.tmp 40)), (3, (.tmp 42))]) 31,
 op1 11 (.alloc 31) 0,
 sto 31 11 43] fr st (.seq c10_39 k)) ∧
 (evK gS fi10 c10_35 fr st k = opsR gS fi10 [mv 33 9 3,
 op1 34 (.binOp .add 3 (.tmp 33) (.const (.int .i64 1)) 3) 3,
 mv 35 0 23,
 cal 36 11 [(.tmp 35), (.const (.int .i64 2))] [23, 3] 3,
 bop 37 .add 3 34 36 3 3,
 asn 9 37 3] fr st (.seq c10_37 k)) ∧
 (evK gS fi10 c10_48 fr st k = opsR gS fi10 [mv 31 10 3,
 op1 32 (.binOp .sub 3 (.tmp 31) (.const (.int .i64 1)) 3) 3,
 asn 10 32 3] fr st k) ∧
 evK gS fi10 c10_33 fr st k = evK gS fi10 c10_35 fr st (.blk 3 (.seq c10_48 k)) ∧
 evK gS fi10 c10_27 fr st k = evK gS fi10 c10_28 fr st (.seq c10_33 k) ∧
 evK gS fi10 c10_25 fr st k = evK gS fi10 c10_26 fr st (.blk 2 k) ∧
 (evK gS fi10 c10_23 fr st k = opsR gS fi10 [mv 27 0 23,
 cal 28 11 [(.tmp 27), (.const (.int .i64 4))] [23, 3] 3,
 asn 10 28 3] fr st (.seq c10_25 k)) ∧
 evK gS fi10 c10_21 fr st k = opsR gS fi10 [op1 9 (.assign (.const (.int .i64 0))) 3] fr st (.seq c10_23 k) ∧
 (evK gS fi10 c10_19 fr st k = opsR gS fi10 [mv 22 0 23,
 mv 23 1 22,
 len1 24 23 22 3,
 op1 25 (.binOp .add 3 (.tmp 24) (.const (.int .i64 1)) 3) 3,
 cal 26 11 [(.tmp 22), (.tmp 25)] [23, 3] 3,
 asn 8 26 3] fr st (.seq c10_21 k)) ∧
 evK gS fi10 c10_17 fr st k = evK gS fi10 c10_19 fr st (.blk 1 (.seq c10_49 k)) ∧
 evK gS fi10 c10_11 fr st k = evK gS fi10 c10_12 fr st (.seq c10_17 k) ∧
 evK gS fi10 c10_9 fr st k = evK gS fi10 c10_10 fr st (.blk 0 k) ∧
 evK gS fi10 c10_7 fr st k = opsR gS fi10 [op1 7 (.assign (.const (.int .i64 1))) 3] fr st (.seq c10_9 k) ∧
 (evK gS fi10 c10_50 fr st k = opsR gS fi10 [mv 58 5 26,
 asn 4 58 26] fr st (.seq .ret k)) ∧
 evK gS fi10 c10_6 fr st k = evK gS fi10 c10_7 fr st (.seq c10_50 k) ∧
 (evK gS fi10 c10_4 fr st k = opsR gS fi10 [mv 13 0 23,
 cal 14 40 [(.tmp 13)] [23] 29,
 mv 15 0 23,
 cal 16 40 [(.tmp 15)] [23] 29,
 op1 17 (.buildSlice 77 3 #[(0, (.tmp 14)), (1, (.tmp 16)), (2, (.const (.slice none 0 0)))]) 77,
 asn 6 17 77] fr st (.seq c10_6 k)) ∧
 evK gS fi10 c10_2 fr st k = opsR gS fi10 [op1 5 (.assign (.const (.slice none 0 0))) 26] fr st (.seq c10_4 k) ∧
 evK gS fi10 c10_0 fr st k = opsR gS fi10 [op1 4 (.assign (.const (.slice none 0 0))) 26] fr st (.seq c10_2 k) := ⟨rfl, evK_rs 4 rfl (by kernel_rfl), rfl, evK_rs 9 rfl (by kernel_rfl), evK_r 15 (by kernel_rfl), rfl, evK_rs 14 rfl (by kernel_rfl), evK_rs 13 rfl (by kernel_rfl), evK_r 16 (by kernel_rfl), rfl, evK_rs 12 rfl (by kernel_rfl), evK_rs 11 rfl (by kernel_rfl), evK_r 10 (by kernel_rfl), rfl, rfl, rfl, evK_rs 8 rfl (by kernel_rfl), evK_rs 7 rfl (by kernel_rfl), evK_rs 6 rfl (by kernel_rfl), rfl, rfl, rfl, evK_rs 3 rfl (by kernel_rfl), evK_rs 17 rfl (by kernel_rfl), rfl, evK_rs 2 rfl (by kernel_rfl), evK_rs 1 rfl (by kernel_rfl), evK_rs 0 rfl (by kernel_rfl)⟩
theorem m10 : mini fi10.body = c10_0 := by kernel_rfl
theorem n10_26 (fr : Fr) (st : St) (k : Kt) : nextK gS fi10 (.loop c10_27 k) .normal fr st = evK gS fi10 c10_26 fr st k := rfl
theorem n10_10 (fr : Fr) (st : St) (k : Kt) : nextK gS fi10 (.loop c10_11 k) .normal fr st = evK gS fi10 c10_10 fr st k := rfl
set_option maxHeartbeats 8000000 in
theorem L10_26 (l : List Int) (a id : Nat) (ha : a < 549755813888) (st : St) (h : FeedOk st id) (ps : List Int) (fs : List (List Pred)) (hfs : ∀ f ∈ fs, PSm f) (hfl : fs.length = 3) (c home : Int) (R : Out × St) : ∀ (r j d : Nat) (num : Int) (out : List Sub) (e11 e12 : E) (T : List (Nat × E)) (X : List (Nat × List V)) (h11 : e11.Tame) (h12 : e12.Tame), out.length + r < 1000 → 0 ≤ num → num + 2 * r < 1000000 → j + 36 * r < 549755800000 →
    (∀ e9 e11 e12 T X, e9.Tame → e11.Tame → e12.Tame → evK gS fi10 c10_49 { ps := [(0, .val (.ptr id 0)), (1, .val (.slice (intVs ps))), (4, .own 0 []), (5, .own (kof 4 (subsI l a fs c home r num j d out).1) (encSubs (subsI l a fs c home r num j d out).1)), (6, .own 1 (encPredss fs)), (7, .val (.int .i64 c)), (8, .val (.int .i64 home)), (9, e9), (10, .val (.int .i64 0)), (11, e11), (12, e12)], ts := T, lc := X } (setF (dd st (subsI l a fs c home r num j d out).2.2) id l (nA l a (subsI l a fs c home r num j d out).2.1)) (.loop c10_11 (.blk 0 (.seq c10_50 .nil))) = some R) →
    evK gS fi10 c10_26 { ps := [(0, .val (.ptr id 0)), (1, .val (.slice (intVs ps))), (4, .own 0 []), (5, .own (kof 4 out) (encSubs out)), (6, .own 1 (encPredss fs)), (7, .val (.int .i64 c)), (8, .val (.int .i64 home)), (9, .val (.int .i64 num)), (10, .val (.int .i64 (r : Nat))), (11, e11), (12, e12)], ts := T, lc := X } (setF (dd st d) id l (nA l a j)) (.blk 2 (.blk 1 (.seq c10_49 (.loop c10_11 (.blk 0 (.seq c10_50 .nil)))))) = some R := by
  intro r
  have hm : fi10.marks = [1000000] := rfl
  have hl : fi10.locals = [11] := rfl
  have hr : fi10.results = [.tmp 4] := rfl
  induction r with
  | zero =>
    intro j d num out e11 e12 T X h11 h12 hol hn0 hn1 hj H
    rw [show subsI l a fs c home 0 num j d out = (out, j, d) from rfl] at H
    refine evK_loop c10_27 _ _ _ _ rfl ?_
    rcases kof_or 4 out with ⟨hk, rfl⟩ | hk
    · have en : encSubs [] = [] := rfl
      rw [hk, en] at H ⊢
      simp [-St.obj, -St.set, h11, h12, -Int.not_le, -Int.not_lt, -Nat.not_le, -Nat.not_lt, ty3, ty4, ty22, ty23, ty26, ty29, ty31, ty77, hm, hl, hr, E10, n10_26, n10_10]
      exact H _ _ _ _ _ (tame_val _) h11 h12
    · rw [hk] at H ⊢
      simp [-St.obj, -St.set, h11, h12, -Int.not_le, -Int.not_lt, -Nat.not_le, -Nat.not_lt, ty3, ty4, ty22, ty23, ty26, ty29, ty31, ty77, hm, hl, hr, E10, n10_26, n10_10]
      exact H _ _ _ _ _ (tame_val _) h11 h12
  | succ r ih =>
    intro j d num out e11 e12 T X h11 h12 hol hn0 hn1 hj H
    have hb2 := fd_bound l a j (n := 2) (by omega)
    have k1 := fun fr => k11 l a j id 2 fr (dd st d) (h.dd d) ha (by omega) (by omega)
    have k2 := fun fr => k40 l a (j + 1) id fr (dd st d) (h.dd d) ha (by omega)
    rw [dd_dd] at k2
    have hfa := filterV_asks l a (j + 1)
    have hff := filterV_ffv l a (j + 1)
    simp only [subsI] at H
    have k3 := fun fr => k11 l a (filterV l a (j + 1)).2.1 id 6 fr (dd st (d + (filterV l a (j + 1)).2.2)) (h.dd _) ha (by omega) (by omega)
    have hb6 := fd_bound l a (filterV l a (j + 1)).2.1 (n := 6) (by omega)
    have IH := fun out' (ho : out'.length = out.length + 1) e11 e12 T X h11 h12 => ih ((filterV l a (j + 1)).2.1 + 1) (d + (filterV l a (j + 1)).2.2) (num + 1 + fd l a j 2) out' e11 e12 T X h11 h12 (by omega) (by omega) (by omega) (by omega)
    generalize filterV l a (j + 1) = F at *
    obtain ⟨f, J, D⟩ := F
    simp only at k2 k3 hfa hff hb6 H IH
    have hpf := psm_ffv hff
    generalize hz : fd l a J 6 = z at *
    generalize fd l a j 2 = y at *
    have hw1 : IntKind.wrap .i64 (num + 1) = num + 1 := wrap64 (by omega) (by omega)
    have hw2 : IntKind.wrap .i64 (num + 1 + y) = num + 1 + y := wrap64 (by omega) (by omega)
    have hw3 : IntKind.wrap .i64 (((r + 1 : Nat) : Int) - 1) = (r : Int) := by rw [wrap64 (by omega) (by omega)]; omega
    have hpos : (0 : Int) < ((r + 1 : Nat) : Int) := by omega
    have hs1 := sizes_subs out
    have b1 : (out.length + 1) * 48 ≤ 140737488355328 := by omega
    have b2 : out.length + 1 ≤ 140737488355328 := by omega
    refine evK_loop c10_27 _ _ _ _ rfl ?_
    by_cases hz3 : z < 3
    · rw [if_pos hz3] at H
      obtain ⟨q, rfl⟩ : ∃ q : Nat, z = (q : Int) := ⟨z.toNat, by omega⟩
      rw [Int.toNat_natCast] at H
      have hq : q < fs.length := by omega
      have hqi : (q : Int) < (fs.length : Int) := by omega
      obtain ⟨x, hx⟩ : ∃ x, fs[q]? = some x := ⟨fs[q]'hq, List.getElem?_eq_getElem hq⟩
      have hxe : fs[q]'hq = x := (List.getElem?_eq_some_iff.1 hx).2
      have hgd : fs.getD q [] = x := by rw [List.getD_eq_getElem?_getD, hx]; rfl
      rw [hgd] at H
      have hpx := hfs x (List.mem_of_getElem? hx)
      have k4 := fun fr st => k48 x hpx fr st
      have XX := IH (out ++ [⟨c, home, num + 1 + y, x⟩]) (by simp)
      have IHx := fun e11 e12 T X h11 h12 => XX e11 e12 T X h11 h12 H
      rw [kof_snoc] at IHx
      have hs2 := subs_snoc out ⟨c, home, num + 1 + y, x⟩
      have en : encSubs [] = [] := rfl
      have en1 : encSubs ([] ++ [⟨c, home, num + 1 + y, x⟩]) = [.agg [.int .i64 c, .int .i64 home, .int .i64 (num + 1 + y), .slice (encPreds x)]] := rfl
      have hkk : ¬ (kof 13 x = 0 ∧ ¬ encPreds x = []) := by
        unfold kof; split
        · rename_i h; rw [h]; simp [encPreds]
        · simp
      generalize kof 13 x = kx at *
      rcases kof_or 4 out with ⟨hk, rfl⟩ | hk
      · rw [hk, en]
        rw [en1] at IHx
        simp [-Int.natCast_add, -St.obj, -St.set, h11, h12, k1, k2, k3, k4, hw1, hw2, hw3, hpos, hz3, hq, hqi, hx, hxe, hkk, -Int.not_le, -Int.not_lt, -Nat.not_le, -Nat.not_lt, ty3, ty4, ty22, ty23, ty26, ty29, ty31, ty77, hm, hl, hr, E10, n10_26, n10_10]
        refine IHx _ _ _ _ ?_ ?_
        all_goals simp [h11, h12]
      · rw [hk]
        simp [-Int.natCast_add, -List.append_assoc, -St.obj, -St.set, h11, h12, k1, k2, k3, k4, hw1, hw2, hw3, hpos, hz3, hq, hqi, hx, hxe, hkk, hs1, hs2, b1, b2, -Int.not_le, -Int.not_lt, -Nat.not_le, -Nat.not_lt, ty3, ty4, ty22, ty23, ty26, ty29, ty31, ty77, hm, hl, hr, E10, n10_26, n10_10]
        refine IHx _ _ _ _ ?_ ?_
        all_goals simp [h11, h12]
    · rw [if_neg hz3] at H
      have XX := IH (out ++ [⟨c, home, num + 1 + y, f⟩]) (by simp)
      have IHx := fun e11 e12 T X h11 h12 => XX e11 e12 T X h11 h12 H
      rw [kof_snoc] at IHx
      have hs2 := subs_snoc out ⟨c, home, num + 1 + y, f⟩
      have en : encSubs [] = [] := rfl
      have en1 : encSubs ([] ++ [⟨c, home, num + 1 + y, f⟩]) = [.agg [.int .i64 c, .int .i64 home, .int .i64 (num + 1 + y), .slice (encPreds f)]] := rfl
      rcases kof_or 4 out with ⟨hk, rfl⟩ | hk
      · rw [hk, en]
        rw [en1] at IHx
        simp [-Int.natCast_add, -St.obj, -St.set, h11, h12, k1, k2, k3, hw1, hw2, hw3, hpos, hz3, -Int.not_le, -Int.not_lt, -Nat.not_le, -Nat.not_lt, ty3, ty4, ty22, ty23, ty26, ty29, ty31, ty77, hm, hl, hr, E10, n10_26, n10_10]
        refine IHx _ _ _ _ ?_ ?_
        all_goals simp [h11, h12]
      · rw [hk]
        simp [-Int.natCast_add, -List.append_assoc, -St.obj, -St.set, h11, h12, k1, k2, k3, hw1, hw2, hw3, hpos, hz3, hs1, hs2, b1, b2, -Int.not_le, -Int.not_lt, -Nat.not_le, -Nat.not_lt, ty3, ty4, ty22, ty23, ty26, ty29, ty31, ty77, hm, hl, hr, E10, n10_26, n10_10]
        refine IHx _ _ _ _ ?_ ?_
        all_goals simp [h11, h12]
set_option maxHeartbeats 8000000 in
theorem L10_10 (l : List Int) (a id : Nat) (ha : a < 549755813888) (st : St) (h : FeedOk st id) (ps : List Int) (fs : List (List Pred)) (hfs : ∀ f ∈ fs, PSm f) (hfl : fs.length = 3) (hps : ps.length < 1000) : ∀ (r j d : Nat) (c : Int) (out : List Sub) (e8 e9 e10 e11 e12 : E) (T : List (Nat × E)) (X : List (Nat × List V)) (h8 : e8.Tame) (h9 : e9.Tame) (h10 : e10.Tame) (h11 : e11.Tame) (h12 : e12.Tame), r ≤ 6 → c = 7 - r → out.length ≤ 3 * (6 - r) → j + 110 * r < 549755700000 →
    evK gS fi10 c10_10 { ps := [(0, .val (.ptr id 0)), (1, .val (.slice (intVs ps))), (4, .own 0 []), (5, .own (kof 4 out) (encSubs out)), (6, .own 1 (encPredss fs)), (7, .val (.int .i64 c)), (8, e8), (9, e9), (10, e10), (11, e11), (12, e12)], ts := T, lc := X } (setF (dd st d) id l (nA l a j)) (.blk 0 (.seq c10_50 .nil)) = some (.ret (.slice (encSubs (subsO l a ps.length fs r c j d out).1)) none, setF (dd st (subsO l a ps.length fs r c j d out).2.2) id l (nA l a (subsO l a ps.length fs r c j d out).2.1)) := by
  intro r
  have hm : fi10.marks = [1000000] := rfl
  have hl : fi10.locals = [11] := rfl
  have hr : fi10.results = [.tmp 4] := rfl
  induction r with
  | zero =>
    intro j d c out e8 e9 e10 e11 e12 T X h8 h9 h10 h11 h12 hr6 hc ho hj
    rw [show subsO l a ps.length fs 0 c j d out = (out, j, d) from rfl]
    obtain rfl : c = 7 := by omega
    have hz := frz_slice (xs := encSubs out) (flats_subs out)
    refine evK_loop c10_11 _ _ _ _ rfl ?_
    rcases kof_or 4 out with ⟨hk, rfl⟩ | hk
    · have en : encSubs [] = [] := rfl
      rw [en] at hz
      rw [hk, en]
      simp [-St.obj, -St.set, h8, h9, h10, h11, h12, hz, -Int.not_le, -Int.not_lt, -Nat.not_le, -Nat.not_lt, ty3, ty4, ty22, ty23, ty26, ty29, ty31, ty77, hm, hl, hr, E10, e10_49, n10_26, n10_10]
    · rw [hk]
      simp [-St.obj, -St.set, h8, h9, h10, h11, h12, hz, -Int.not_le, -Int.not_lt, -Nat.not_le, -Nat.not_lt, ty3, ty4, ty22, ty23, ty26, ty29, ty31, ty77, hm, hl, hr, E10, e10_49, n10_26, n10_10]
  | succ r ih =>
    intro j d c out e8 e9 e10 e11 e12 T X h8 h9 h10 h11 h12 hr6 hc ho hj
    have k1 := fun fr => k11 l a j id ((ps.length : Int) + 1) fr (dd st d) (h.dd d) ha (by omega) (by omega)
    have k2 := fun fr => k11 l a (j + 1) id 4 fr (dd st d) (h.dd d) ha (by omega) (by omega)
    have hb := fd_bound l a (j + 1) (n := 4) (by omega)
    simp only [subsO]
    have hw1 : IntKind.wrap .i64 ((ps.length : Int) + 1) = (ps.length : Int) + 1 := wrap64 (by omega) (by omega)
    have hwc : IntKind.wrap .i64 (c + 1) = c + 1 := wrap64 (by omega) (by omega)
    have hc6 : c ≤ 6 := by omega
    generalize fd l a j (ps.length + 1) = home at *
    generalize hz : fd l a (j + 1) 4 = z at *
    obtain ⟨q, rfl⟩ : ∃ q : Nat, z = (q : Int) := ⟨z.toNat, by omega⟩
    rw [Int.toNat_natCast]
    have hsa := subsI_asks l a fs c home q 0 (j + 2) d out
    have LI := fun R e11 e12 T X h11 h12 => L10_26 l a id ha st h ps fs hfs hfl c home R q (j + 2) d 0 out e11 e12 T X h11 h12 (by omega) (by omega) (by omega) (by omega)
    generalize subsI l a fs c home q 0 (j + 2) d out = I at *
    obtain ⟨out2, J, D⟩ := I
    simp only at hsa LI ⊢
    have IH := fun e8 e9 e10 e11 e12 T X h8 h9 h10 h11 h12 => ih J D (c + 1) out2 e8 e9 e10 e11 e12 T X h8 h9 h10 h11 h12 (by omega) (by omega) (by omega) (by omega)
    generalize hR : (Out.ret (V.slice (encSubs (subsO l a ps.length fs r (c + 1) J D out2).1)) none, setF (dd st (subsO l a ps.length fs r (c + 1) J D out2).2.2) id l (nA l a (subsO l a ps.length fs r (c + 1) J D out2).2.1)) = R at IH ⊢
    have H49 : ∀ e9 e11 e12 T X, e9.Tame → e11.Tame → e12.Tame → evK gS fi10 c10_49 { ps := [(0, .val (.ptr id 0)), (1, .val (.slice (intVs ps))), (4, .own 0 []), (5, .own (kof 4 out2) (encSubs out2)), (6, .own 1 (encPredss fs)), (7, .val (.int .i64 c)), (8, .val (.int .i64 home)), (9, e9), (10, .val (.int .i64 0)), (11, e11), (12, e12)], ts := T, lc := X } (setF (dd st D) id l (nA l a J)) (.loop c10_11 (.blk 0 (.seq c10_50 .nil))) = some R := by
      intro e9 e11 e12 T X h9 h11 h12
      rcases kof_or 4 out2 with ⟨hk, rfl⟩ | hk
      · have en : encSubs [] = [] := rfl
        rw [hk, en] at IH ⊢
        simp [-Int.natCast_add, -St.obj, -St.set, h9, h11, h12, hwc, -Int.not_le, -Int.not_lt, -Nat.not_le, -Nat.not_lt, ty3, ty4, ty22, ty23, ty26, ty29, ty31, ty77, hm, hl, hr, E10, e10_49, n10_26, n10_10]
        exact IH _ _ _ _ _ _ _ (tame_val _) h9 (tame_val _) h11 h12
      · rw [hk] at IH ⊢
        simp [-Int.natCast_add, -St.obj, -St.set, h9, h11, h12, hwc, -Int.not_le, -Int.not_lt, -Nat.not_le, -Nat.not_lt, ty3, ty4, ty22, ty23, ty26, ty29, ty31, ty77, hm, hl, hr, E10, e10_49, n10_26, n10_10]
        exact IH _ _ _ _ _ _ _ (tame_val _) h9 (tame_val _) h11 h12
    have LL := fun e11 e12 T X h11 h12 => LI R e11 e12 T X h11 h12 H49
    refine evK_loop c10_11 _ _ _ _ rfl ?_
    rcases kof_or 4 out with ⟨hk, rfl⟩ | hk
    · have en : encSubs [] = [] := rfl
      rw [hk, en] at LL ⊢
      simp [-Int.natCast_add, -St.obj, -St.set, h8, h9, h10, h11, h12, k1, k2, hw1, hc6, -Int.not_le, -Int.not_lt, -Nat.not_le, -Nat.not_lt, ty3, ty4, ty22, ty23, ty26, ty29, ty31, ty77, hm, hl, hr, E10, e10_49, n10_26, n10_10]
      exact LL _ _ _ _ h11 h12
    · rw [hk] at LL ⊢
      simp [-Int.natCast_add, -St.obj, -St.set, h8, h9, h10, h11, h12, k1, k2, hw1, hc6, -Int.not_le, -Int.not_lt, -Nat.not_le, -Nat.not_lt, ty3, ty4, ty22, ty23, ty26, ty29, ty31, ty77, hm, hl, hr, E10, e10_49, n10_26, n10_10]
      exact LL _ _ _ _ h11 h12
set_option maxHeartbeats 8000000 in
theorem c10 (l : List Int) (a j id : Nat) (st : St) (h : FeedOk st id) (ha : a < 549755813888) (hj : j < 549755600000) (ps : List Int) (hps : ps.length < 1000) :
    EvF gS 10 [.ptr id 0, .slice (intVs ps)] (setF st id l (nA l a j)) = some (.ret (.slice (encSubs (subsV l a j ps.length).1)) none, setF (dd st (subsV l a j ps.length).2.2) id l (nA l a (subsV l a j ps.length).2.1)) := by
  refine EvF_start fi53_eq (fun x h => by cases h) m10 ?_
  rw [st10]
  have hm : fi10.marks = [1000000] := rfl
  have hl : fi10.locals = [11] := rfl
  have hr : fi10.results = [.tmp 4] := rfl
  have k1 := fun fr => k40 l a j id fr st h ha (by omega)
  have a1 := filterV_asks l a j
  have k2 := fun fr => k40 l a (filterV l a j).2.1 id fr (dd st (filterV l a j).2.2) (h.dd _) ha (by omega)
  rw [dd_dd] at k2
  have a2 := filterV_asks l a (filterV l a j).2.1
  have q1 := filterV_ffv l a j
  have q2 := filterV_ffv l a (filterV l a j).2.1
  unfold subsV subsF
  generalize filterV l a (filterV l a j).2.1 = B at *
  generalize filterV l a j = A at *
  obtain ⟨f1, J1, D1⟩ := A
  obtain ⟨f2, J2, D2⟩ := B
  simp only at k1 k2 a1 a2 q1 q2 ⊢
  have hfs : ∀ f ∈ [f1, f2, []], PSm f := fun f hf => by
    simp at hf
    rcases hf with rfl | rfl | rfl
    · exact psm_ffv q1
    · exact psm_ffv q2
    · exact ⟨by simp, by simp⟩
  have LL := fun e8 e9 e10 e11 e12 T X h8 h9 h10 h11 h12 => L10_10 l a id ha st h ps [f1, f2, []] hfs rfl hps 6 J2 (D1 + D2) 1 [] e8 e9 e10 e11 e12 T X h8 h9 h10 h11 h12 (Nat.le_refl _) rfl (Nat.le_refl _) (by omega)
  rw [show kof 4 ([] : List Sub) = 0 from rfl, show encSubs [] = [] from rfl, show encPredss [f1, f2, []] = [.slice (encPreds f1), .slice (encPreds f2), .slice []] from rfl] at LL
  generalize hR : (Out.ret (V.slice (encSubs (subsO l a ps.length [f1, f2, []] 6 1 J2 (D1 + D2) []).1)) none, setF (dd st (subsO l a ps.length [f1, f2, []] 6 1 J2 (D1 + D2) []).2.2) id l (nA l a (subsO l a ps.length [f1, f2, []] 6 1 J2 (D1 + D2) []).2.1)) = R at LL ⊢
  simp [-St.obj, -St.set, k1, k2, -Int.not_le, -Int.not_lt, -Nat.not_le, -Nat.not_lt, ty3, ty4, ty22, ty23, ty26, ty29, ty31, ty77, hm, hl, hr, E10, e10_49, n10_26, n10_10]
  exact LL _ _ _ _ _ _ _ tame_any tame_any tame_any tame_any tame_any
theorem k10 (l : List Int) (a j id : Nat) (fr : Fr) (st : St) (h : FeedOk st id) (ha : a < 549755813888) (hj : j < 549755600000) (ps : List Int) (hps : ps.length < 1000) :
    callStep gS (EvF gS) 10 [.ptr id 0, .slice (intVs ps)] fr (setF st id l (nA l a j)) = some (.ok (.val (.slice (encSubs (subsV l a j ps.length).1))) (fr.map E.noMem) (setF (dd st (subsV l a j ps.length).2.2) id l (nA l a (subsV l a j ps.length).2.1))) := by
  unfold callStep
  simp only [show gS.ext 10 = none from rfl, fi53_eq, show fi10.pure = false from rfl, Bool.false_eq_true, if_false, c10 l a j id st h ha hj ps hps, retE]
end
end Go.Proofs.Ytdoobejjedpcgaa
/-! # Trees of brokers, in plain Lean -/
namespace Go.Ab
open Go
/-- Every entry is a broker ahead of its own. -/
def upT : Nat → List Int → Bool
  | _, [] => true
  | i, x :: l => decide (0 ≤ x) && decide (x ≤ i) && upT (i + 1) l
def rightT (p : List Int) : Bool := upT 0 p && decide ((p.length : Int) ≤ 7)
def isT (p : List Int) (b : Int) : Bool := rightT p && decide (0 ≤ b) && decide (b ≤ (p.length : Int))
structure Atom where
  a : Int
  b : Int
  br : Int
  deriving Inhabited
def Atom.cells (x : Atom) : List V := [.int .i64 x.a, .int .i64 x.b, .int .i64 x.br]
def Atom.enc (x : Atom) : V := .agg x.cells
def encAtoms (l : List Atom) : List V := l.map Atom.enc
theorem upT_cons (i : Nat) (x : Int) (l : List Int) : upT i (x :: l) = (decide (0 ≤ x) && decide (x ≤ i) && upT (i + 1) l) := rfl
theorem upT_get : ∀ (l : List Int) (i k : Nat) (x : Int), upT i l = true → l[k]? = some x → 0 ≤ x ∧ x ≤ ((i + k : Nat) : Int) := by
  intro l
  induction l with
  | nil => intro i k x h hx; simp at hx
  | cons a l ih =>
    intro i k x h hx
    rw [upT_cons] at h
    simp only [Bool.and_eq_true, decide_eq_true_eq] at h
    cases k with
    | zero => simp at hx; subst hx; simpa using h.1
    | succ k =>
      have := ih (i + 1) k x h.2 (by simpa using hx)
      omega
/-- The way from a broker up to the root, itself left out (k: fuel, the broker's number at least). -/
def upF (p : List Int) : Nat → Nat → List Int
  | 0, _ => []
  | k + 1, b => if b = 0 then [] else (p.getD (b - 1) 0) :: upF p k (p.getD (b - 1) 0).toNat
def upP (p : List Int) (b : Nat) : List Int := (b : Int) :: upF p b b
theorem upF_zero (p : List Int) (k : Nat) : upF p k 0 = [] := by cases k <;> simp [upF]
theorem upF_succ (p : List Int) (k b : Nat) (x : Int) (hx : p[b]? = some x) : upF p (k + 1) (b + 1) = x :: upF p k x.toNat := by
  simp [upF, hx]
theorem encAtoms_length (l : List Atom) : (encAtoms l).length = l.length := by simp [encAtoms]
theorem encAtoms_get (l : List Atom) (i : Nat) : (encAtoms l)[i]? = (l[i]?).map Atom.enc := by simp [encAtoms]
theorem encAtoms_gE (l : List Atom) (i : Nat) (h : i < (encAtoms l).length) : (encAtoms l)[i]'h = (l[i]'(by rw [encAtoms_length] at h; exact h)).enc := by simp [encAtoms]
theorem flat_atom (v : Atom) : v.enc.flat = true := by simp [Atom.enc, Atom.cells, V.flat, flats]
theorem flats_atoms (l : List Atom) : flats (encAtoms l) = true := by
  induction l with
  | nil => rfl
  | cons x r ih => simp only [encAtoms, List.map_cons, flats, flat_atom] at ih ⊢; exact ih
attribute [simp] encAtoms_length encAtoms_get encAtoms_gE flat_atom flats_atoms Atom.enc Atom.cells
theorem take_rev (b : List Int) (n : Nat) (x : Int) (hx : b[n]? = some x) : (b.take (n + 1)).reverse = x :: (b.take n).reverse := by
  rw [List.take_add_one, hx]; simp
theorem upF_len (p : List Int) : ∀ (k b : Nat), (upF p k b).length ≤ k
  | 0, _ => by simp [upF]
  | k + 1, b => by
    unfold upF
    split
    · simp
    · have := upF_len p k (p.getD (b - 1) 0).toNat
      simp only [List.length_cons]; omega
/-- A tree as a feed yields it: n parents more, each one ahead of its own. -/
def treeG (l : List Int) (a : Nat) : Nat → Nat → List Int → List Int
  | 0, _, acc => acc
  | n + 1, j, acc => treeG l a n (j + 1) (acc ++ [fd l a j ((acc.length : Int) + 1)])
def treeV (l : List Int) (a j : Nat) (most : Int) : List Int := treeG l a (fd l a j most).toNat (j + 1) []
theorem treeG_succ (l : List Int) (a n j : Nat) (acc : List Int) : treeG l a (n + 1) j acc = treeG l a n (j + 1) (acc ++ [fd l a j ((acc.length : Int) + 1)]) := rfl
theorem treeG_len (l : List Int) (a : Nat) : ∀ (n j : Nat) (acc : List Int), (treeG l a n j acc).length = acc.length + n
  | 0, _, acc => rfl
  | n + 1, j, acc => by rw [treeG_succ, treeG_len l a n, List.length_append, List.length_singleton]; omega
theorem upT_snoc : ∀ (p : List Int) (i : Nat) (x : Int), upT i p = true → 0 ≤ x → x ≤ ((i + p.length : Nat) : Int) → upT i (p ++ [x]) = true
  | [], i, x, _, h1, h2 => by simp [upT, h1]; simpa using h2
  | y :: p, i, x, h, h1, h2 => by
    rw [upT_cons] at h
    simp only [Bool.and_eq_true] at h
    rw [List.cons_append, upT_cons, upT_snoc p (i + 1) x h.2 h1 (by simp only [List.length_cons] at h2; omega)]
    simp [h.1.1, h.1.2] at *
theorem treeG_up (l : List Int) (a : Nat) : ∀ (n j : Nat) (acc : List Int), upT 0 acc = true → upT 0 (treeG l a n j acc) = true
  | 0, _, acc, h => h
  | n + 1, j, acc, h => by
    rw [treeG_succ]
    have hb := fd_bound l a j (n := (acc.length : Int) + 1) (by omega)
    exact treeG_up l a n _ _ (upT_snoc acc 0 _ h hb.1 (by omega))
theorem treeV_right (l : List Int) (a j : Nat) {most : Int} (h1 : 1 ≤ most) (h2 : most ≤ 8) : rightT (treeV l a j most) = true := by
  have hb := fd_bound l a j (n := most) h1
  have hl := treeG_len l a (fd l a j most).toNat (j + 1) []
  unfold rightT treeV
  rw [treeG_up l a _ _ [] rfl, hl]
  simp
  omega
/-- A subscription that may be. -/
def mayS (s : Sub) : Bool := decide (1 ≤ s.client) && decide (s.client ≤ 6) && decide (0 ≤ s.broker) && decide (s.broker ≤ 7) && decide (1 ≤ s.num) && decide (s.num ≤ 4611686018427387904) && fright s.filter
/-- Clients of both. -/
def bothI (v : List Int) : List Int → List Int → List Int
  | [], out => out
  | c :: r, out => bothI v r (if hasI v c then layI out c else out)
end Go.Ab
namespace Go.Proofs.Ytdoobejjedpcgaa
open Go Go.Ab
set_option linter.unusedVariables false
set_option linter.unusedSimpArgs false
set_option linter.unnecessarySimpa false
set_option maxRecDepth 20000
noncomputable section
variable (fr : Fr) (st : St) (k : Kt)
def fi88 : FI := { body := codeOf Try.f88, ntmps := 23, results := [.tmp 2], pers := [0, 2, 3, 4, 5, 6, 7], locals := [], pure := true, marks := [] }
theorem fi201_eq : gS.fn 88 = some fi88 := by kernel_rfl
theorem st88 (a0 : V) : startFr fi88 [a0] = { ps := [(0, .val a0), (2, .any), (3, .any), (4, .any), (5, .any), (6, .any), (7, .any)], ts := [], lc := [] } := rfl
def b88 : Code := mini (codeOf Try.f88)
def c88_20 : Code := .seq (codeN b88 9829) .ret
def c88_19 : Code := .cond (.tmp 18) c88_20 .skip
def c88_17 : Code := .seq (codeN b88 2661) c88_19
def c88_15 : Code := .seq (codeN b88 1125) c88_17
def c88_24 : Code := codeN b88 485
def c88_13 : Code := .seq (.block 1 c88_15) c88_24
def c88_9 : Code := .seq (.cond (.tmp 8) .skip (.exit 0)) c88_13
def c88_7 : Code := .seq (codeN b88 69) c88_9
def c88_6 : Code := .loop c88_7
def c88_5 : Code := .block 0 c88_6
def c88_3 : Code := .seq (codeN b88 9) c88_5
def c88_25 : Code := .seq (codeN b88 11) .ret
def c88_2 : Code := .seq c88_3 c88_25
def c88_0 : Code := .seq (codeN b88 2) c88_2
theorem E88 : evK gS fi88 c88_20 fr st k = opsR gS fi88 [op1 2 (.assign (.const (.bool false))) 4] fr st (.seq .ret k) ∧
 evK gS fi88 c88_19 fr st k = condK gS fi88 (fr.op (.tmp 18)).bool? c88_20 .skip fr st k ∧
 (evK gS fi88 c88_17 fr st k = opsR gS fi88 [mv 12 4 3,
 op1 13 (.binOp .lss 3 (.tmp 12) (.const (.int .i64 0)) 3) 4,
 mv 14 13 4,
 mk (some 15) (.move (.tmp 4)) 3 (some (2, false)),
 mk (some 16) (.move (.tmp 3)) 3 (some (2, false)),
 mk (some 17) (.binOp .gtr 3 (.tmp 15) (.tmp 16) 3) 4 (some (2, false)),
 op1 18 (.pick (.tmp 14) (.const (.bool true)) (.tmp 17)) 4] fr st (.seq c88_19 k)) ∧
 (evK gS fi88 c88_15 fr st k = opsR gS fi88 [mv 9 7 3,
 ixa 10 22 5 7 0,
 ld 11 3 10 3,
 asn 3 9 3,
 asn 4 11 3] fr st (.seq c88_17 k)) ∧
 (evK gS fi88 c88_24 fr st k = opsR gS fi88 [op1 19 (.binOp .add 3 (.tmp 7) (.const (.int .i64 1)) 3) 3,
 mv 7 19 3] fr st k) ∧
 evK gS fi88 c88_13 fr st k = evK gS fi88 c88_15 fr st (.blk 1 (.seq c88_24 k)) ∧
 evK gS fi88 c88_9 fr st k = condK gS fi88 (fr.op (.tmp 8)).bool? .skip (.exit 0) fr st (.seq c88_13 k) ∧
 evK gS fi88 c88_7 fr st k = opsR gS fi88 [bop 8 .lss 3 7 6 3 0] fr st (.seq c88_9 k) ∧
 evK gS fi88 c88_5 fr st k = evK gS fi88 c88_6 fr st (.blk 0 k) ∧
 (evK gS fi88 c88_3 fr st k = opsR gS fi88 [mv 5 0 22,
 len1 6 5 22 3,
 op1 7 (.move (.const (.int .i64 0))) 3] fr st (.seq c88_5 k)) ∧
 (evK gS fi88 c88_25 fr st k = opsR gS fi88 [mv 20 0 22,
 len1 21 20 22 3,
 op1 22 (.binOp .leq 3 (.tmp 21) (.const (.int .i64 7)) 3) 4,
 asn 2 22 4] fr st (.seq .ret k)) ∧
 evK gS fi88 c88_2 fr st k = evK gS fi88 c88_3 fr st (.seq c88_25 k) ∧
 evK gS fi88 c88_0 fr st k = opsR gS fi88 [op1 2 (.assign (.const (.bool false))) 4] fr st (.seq c88_2 k) := ⟨evK_rs 5 rfl (by kernel_rfl), rfl, evK_rs 4 rfl (by kernel_rfl), evK_rs 3 rfl (by kernel_rfl), evK_r 6 (by kernel_rfl), rfl, rfl, evK_rs 2 rfl (by kernel_rfl), rfl, evK_rs 1 rfl (by kernel_rfl), evK_rs 7 rfl (by kernel_rfl), rfl, evK_rs 0 rfl (by kernel_rfl)⟩
theorem m88 : mini fi88.body = c88_0 := by kernel_rfl
theorem n88_6 (fr : Fr) (st : St) (k : Kt) : nextK gS fi88 (.loop c88_7 k) .normal fr st = evK gS fi88 c88_6 fr st k := rfl
set_option maxHeartbeats 4000000 in
theorem L88_6 (l : List Int) (h_l : l.length < 4611686018427387904) (st : St) : ∀ (n i : Nat) (j : Int)  (e3 e4 : E) (T : List (Nat × E)) (X : List (Nat × List V)) (ht3 : e3.Tame) (ht4 : e4.Tame) , j = (i : Int) → i ≤ (l).length → (l).length - i = n →
    evK gS fi88 c88_6 { ps := [(0, .val (.slice (intVs l))), (2, .val (.bool false)), (3, e3), (4, e4), (5, .val (.slice (intVs l))), (6, .val (.int .i64 l.length)), (7, .val (.int .i64 j))], ts := T, lc := X } st (.blk 0 (.seq c88_25 .nil)) = some ((.ret (.bool (upT i (l.drop i) && decide ((l.length : Int) ≤ 7))) none), st) := by
  intro n
  have hm : fi88.marks = [] := rfl
  have hl : fi88.locals = [] := rfl
  have hr : fi88.results = [.tmp 2] := rfl
  induction n with
  | zero =>
    intro i j  e3 e4 T X ht3 ht4  hj hi hn
    obtain rfl : i = (l).length := by omega
    subst hj
    refine evK_loop c88_7 _ st _ _ rfl ?_
    simp (config := { contextual := true, maxSteps := 10000000, maxDischargeDepth := 6 }) [-Int.not_le, -Int.not_lt, -Nat.not_le, -Nat.not_lt, ty3, ty4, ty22, hm, hl, hr, E88, n88_6, ht3, ht4]
    all_goals try simp (config := { contextual := true }) [-Int.not_le, -Int.not_lt, -Nat.not_le, -Nat.not_lt, upT_cons, upT]
    all_goals first | done | grind | omega | (trace_state; fail)
  | succ n ih =>
    intro i j  e3 e4 T X ht3 ht4  hj hi hn
    subst hj
    obtain ⟨x, hx⟩ : ∃ x, (l)[i]? = some x := ⟨(l)[i]'(by omega), List.getElem?_eq_getElem (by omega)⟩
    have hd := drop_get hx
    have hlt : (i : Int) < ((l).length : Int) := by omega
    have hlt2 : i < (l).length := by omega
    have hxe : (l)[i]'hlt2 = x := by rw [List.getElem?_eq_getElem hlt2] at hx; exact Option.some.inj hx
    have hw : IntKind.wrap .i64 ((i : Int) + 1) = (i : Int) + 1 := wrap64 (by omega) (by omega)
    have IH := fun e3 e4 T X ht3 ht4 => ih (i + 1) ((i : Int) + 1) e3 e4 T X ht3 ht4 rfl (by omega) (by omega)
    refine evK_loop c88_7 _ st _ _ rfl ?_
    simp (config := { contextual := true, maxSteps := 10000000, maxDischargeDepth := 6 }) [-Int.not_le, -Int.not_lt, -Nat.not_le, -Nat.not_lt, ty3, ty4, ty22, hm, hl, hr, E88, n88_6, ht3, ht4, hx, hxe, hd, hlt, hlt2, hw, IH]
    all_goals try simp (config := { contextual := true }) [-Int.not_le, -Int.not_lt, -Nat.not_le, -Nat.not_lt, upT_cons, upT]
    all_goals first | done | grind | omega | (trace_state; fail)
set_option maxHeartbeats 4000000 in
theorem c88 (l : List Int)  (h_l : l.length < 4611686018427387904) (st : St) : EvF gS 88 [.slice (intVs l)] st = some (.ret (.bool (rightT l)) none, st) := by
  refine EvF_start fi201_eq (fun x h => by cases h) m88 ?_
  rw [st88]
  have hm : fi88.marks = [] := rfl
  have hl : fi88.locals = [] := rfl
  have hr : fi88.results = [.tmp 2] := rfl
  simp (config := { contextual := true, maxSteps := 10000000, maxDischargeDepth := 6 }) [-Int.not_le, -Int.not_lt, -Nat.not_le, -Nat.not_lt, ty3, ty4, ty22, hm, hl, hr, E88, n88_6, (fun e3 e4 T X ht3 ht4 => L88_6 l h_l st _ 0 0  e3 e4 T X ht3 ht4 rfl (Nat.zero_le _) rfl), h_l]
  all_goals try simp (config := { contextual := true }) [-Int.not_le, -Int.not_lt, -Nat.not_le, -Nat.not_lt, rightT]
  all_goals first | done | grind | omega | (trace_state; fail)
theorem k88 (l : List Int)  (h_l : l.length < 4611686018427387904) (fr : Fr) (st : St) : callStep gS (EvF gS) 88 [.slice (intVs l)] fr st = some (.ok (retE none (.bool (rightT l))) fr st) :=
  call_pure rfl fi201_eq rfl (fun st => c88 l h_l st) (by simp)
def fi72 : FI := { body := codeOf Try.f72, ntmps := 17, results := [.tmp 4], pers := [0, 1, 4], locals := [], pure := true, marks := [] }
theorem fi202_eq : gS.fn 72 = some fi72 := by kernel_rfl
theorem st72 (a0 a1 : V) : startFr fi72 [a0, a1] = { ps := [(0, .val a0), (1, .val a1), (4, .any)], ts := [], lc := [] } := rfl
def b72 : Code := mini (codeOf Try.f72)
def c72_2 : Code := .seq (codeN b72 5) .ret
theorem e72_2 : evK gS fi72 c72_2 fr st k = opsR gS fi72 [mv 5 0 22,
 cal 6 88 [(.tmp 5)] [22] 4,
 mv 7 6 4,
 mk (some 8) (.move (.tmp 1)) 3 (some (2, true)),
 mk (some 9) (.binOp .geq 3 (.tmp 8) (.const (.int .i64 0)) 3) 4 (some (2, true)),
 op1 10 (.pick (.tmp 7) (.tmp 9) (.const (.bool false))) 4,
 mv 11 10 4,
 mk (some 12) (.move (.tmp 1)) 3 (some (6, true)),
 mk (some 13) (.move (.tmp 0)) 22 (some (6, true)),
 mk (some 14) (.call { callee := (.builtin .len), args := #[(.tmp 13)], argTypes := #[22] }) 3 (some (6, true)),
 mk (some 15) (.binOp .leq 3 (.tmp 12) (.tmp 14) 3) 4 (some (6, true)),
 op1 16 (.pick (.tmp 11) (.tmp 15) (.const (.bool false))) 4,
 asn 4 16 4] fr st (.seq .ret k) := evK_rs 1 rfl (by kernel_rfl)
def c72_0 : Code := .seq (codeN b72 2) c72_2
theorem e72_0 : evK gS fi72 c72_0 fr st k = opsR gS fi72 [op1 4 (.assign (.const (.bool false))) 4] fr st (.seq c72_2 k) := evK_rs 0 rfl (by kernel_rfl)
theorem m72 : mini fi72.body = c72_0 := by kernel_rfl
set_option maxHeartbeats 4000000 in
theorem c72 (l : List Int) (b : Int)  (h_l : l.length < 4611686018427387904) (st : St) : EvF gS 72 [.slice (intVs l), .int .i64 b] st = some (.ret (.bool (isT l b)) none, st) := by
  refine EvF_start fi202_eq (fun x h => by cases h) m72 ?_
  rw [st72]
  have hm : fi72.marks = [] := rfl
  have hl : fi72.locals = [] := rfl
  have hr : fi72.results = [.tmp 4] := rfl
  simp (config := { contextual := true, maxSteps := 10000000, maxDischargeDepth := 6 }) [-Int.not_le, -Int.not_lt, -Nat.not_le, -Nat.not_lt, ty3, ty4, ty22, hm, hl, hr, k88, e72_2, e72_0, h_l]
  all_goals try simp (config := { contextual := true }) [-Int.not_le, -Int.not_lt, -Nat.not_le, -Nat.not_lt, isT]
  all_goals first | done | grind | omega | (trace_state; fail)
theorem k72 (l : List Int) (b : Int)  (h_l : l.length < 4611686018427387904) (fr : Fr) (st : St) : callStep gS (EvF gS) 72 [.slice (intVs l), .int .i64 b] fr st = some (.ok (retE none (.bool (isT l b))) fr st) :=
  call_pure rfl fi202_eq rfl (fun st => c72 l b h_l st) (by simp)
def fi26 : FI := { body := codeOf Try.f26, ntmps := 23, results := [.tmp 4], pers := [0, 1, 4, 5, 6], locals := [], pure := false, marks := [1000000] }
theorem fi200_eq : gS.fn 26 = some fi26 := by kernel_rfl
theorem st26 (a0 a1 : V) : startFr fi26 [a0, a1] = { ps := [(0, .val a0), (1, .val a1), (4, .any), (5, .any), (6, .any)], ts := [], lc := [] } := rfl
def b26 : Code := mini (codeOf Try.f26)
def c26_12 : Code := .cond (.tmp 11) .skip (.exit 0)
def c26_10 : Code := .seq (codeN b26 267) c26_12
def c26_17 : Code := codeN b26 587
def c26_18 : Code := codeN b26 459
def c26_15 : Code := .seq (.block 1 c26_17) c26_18
def c26_9 : Code := .seq c26_10 c26_15
def c26_8 : Code := .loop c26_9
def c26_7 : Code := .block 0 c26_8
def c26_5 : Code := .seq (codeN b26 19) c26_7
def c26_19 : Code := .seq (codeN b26 23) .ret
def c26_4 : Code := .seq c26_5 c26_19
def c26_2 : Code := .seq (codeN b26 5) c26_4
def c26_0 : Code := .seq (codeN b26 2) c26_2
theorem E26 : evK gS fi26 c26_12 fr st k = condK gS fi26 (fr.op (.tmp 11)).bool? .skip (.exit 0) fr st k ∧
 (evK gS fi26 c26_10 fr st k = opsR gS fi26 [mv 10 6 3,
 op1 11 (.binOp .gtr 3 (.tmp 10) (.const (.int .i64 0)) 3) 4] fr st (.seq c26_12 k)) ∧
 (evK gS fi26 c26_17 fr st k = opsR gS fi26 [mv 14 5 22,
 mv 15 0 23,
 mv 16 5 22,
 len1 17 16 22 3,
 op1 18 (.binOp .add 3 (.tmp 17) (.const (.int .i64 1)) 3) 3,
 cal 19 11 [(.tmp 15), (.tmp 18)] [23, 3] 3,
 op1 20 (.buildSlice 22 1 #[(0, (.tmp 19))]) 22,
 op1 21 (.call { callee := (.builtin .append), args := #[(.tmp 14), (.tmp 20)], argTypes := #[22, 22] }) 22,
 asn 5 21 22] fr st k) ∧
 (evK gS fi26 c26_18 fr st k = opsR gS fi26 [mv 12 6 3,
 op1 13 (.binOp .sub 3 (.tmp 12) (.const (.int .i64 1)) 3) 3,
 asn 6 13 3] fr st k) ∧
 evK gS fi26 c26_15 fr st k = evK gS fi26 c26_17 fr st (.blk 1 (.seq c26_18 k)) ∧
 evK gS fi26 c26_9 fr st k = evK gS fi26 c26_10 fr st (.seq c26_15 k) ∧
 evK gS fi26 c26_7 fr st k = evK gS fi26 c26_8 fr st (.blk 0 k) ∧
 (evK gS fi26 c26_5 fr st k = opsR gS fi26 [mv 7 0 23,
 mv 8 1 3,
 cal 9 11 [(.tmp 7), (.tmp 8)] [23, 3] 3,
 asn 6 9 3] fr st (.seq c26_7 k)) ∧
 (evK gS fi26 c26_19 fr st k = opsR gS fi26 [mv 22 5 22,
 asn 4 22 22] fr st (.seq .ret k)) ∧
 evK gS fi26 c26_4 fr st k = evK gS fi26 c26_5 fr st (.seq c26_19 k) ∧
 evK gS fi26 c26_2 fr st k = opsR gS fi26 [op1 5 (.assign (.const (.slice none 0 0))) 22] fr st (.seq c26_4 k) ∧
 evK gS fi26 c26_0 fr st k = opsR gS fi26 [op1 4 (.assign (.const (.slice none 0 0))) 22] fr st (.seq c26_2 k) := ⟨rfl, evK_rs 3 rfl (by kernel_rfl), evK_r 5 (by kernel_rfl), evK_r 4 (by kernel_rfl), rfl, rfl, rfl, evK_rs 2 rfl (by kernel_rfl), evK_rs 6 rfl (by kernel_rfl), rfl, evK_rs 1 rfl (by kernel_rfl), evK_rs 0 rfl (by kernel_rfl)⟩
theorem m26 : mini fi26.body = c26_0 := by kernel_rfl
theorem n26_8 (fr : Fr) (st : St) (k : Kt) : nextK gS fi26 (.loop c26_9 k) .normal fr st = evK gS fi26 c26_8 fr st k := rfl
set_option maxHeartbeats 8000000 in
theorem L26 (l : List Int) (a id : Nat) (ha : a < 549755813888) (st : St) (h : FeedOk st id) (most : Int) : ∀ (n j : Nat) (acc : List Int) (T : List (Nat × E)) (X : List (Nat × List V)), acc.length + n ≤ 8 → j + n < 549755812000 →
    evK gS fi26 c26_8 { ps := [(0, .val (.ptr id 0)), (1, .val (.int .i64 most)), (4, .own 0 []), (5, .own (kof 1 acc) (intVs acc)), (6, .val (.int .i64 (n : Nat)))], ts := T, lc := X } (setF st id l (nA l a j)) (.blk 0 (.seq c26_19 .nil)) = some (.ret (.slice (intVs (treeG l a n j acc))) none, setF st id l (nA l a (j + n))) := by
  intro n
  have hm : fi26.marks = [1000000] := rfl
  have hl : fi26.locals = [] := rfl
  have hr : fi26.results = [.tmp 4] := rfl
  have hz := fun xs st => frz_slice (xs := intVs xs) (flats_ints xs) st
  induction n with
  | zero =>
    intro j acc T X ha2 hj
    rw [show treeG l a 0 j acc = acc from rfl, Nat.add_zero]
    refine evK_loop c26_9 _ _ _ _ rfl ?_
    rcases kof_or 1 acc with ⟨hk, rfl⟩ | hk
    · have en : intVs [] = [] := rfl
      have hz0 := hz []
      rw [en] at hz0
      rw [hk, en]
      simp [hz0, en, -Int.not_le, -Int.not_lt, -Nat.not_le, -Nat.not_lt, ty3, ty4, ty22, ty23, hm, hl, hr, E26, n26_8]
    · rw [hk]
      simp [hz, -Int.not_le, -Int.not_lt, -Nat.not_le, -Nat.not_lt, ty3, ty4, ty22, ty23, hm, hl, hr, E26, n26_8]
  | succ n ih =>
    intro j acc T X ha2 hj
    rw [treeG_succ]
    have hb := fd_bound l a j (n := (acc.length : Int) + 1) (by omega)
    have hw : IntKind.wrap .i64 (((n + 1 : Nat) : Int) - 1) = (n : Int) := by rw [wrap64 (by omega) (by omega)]; omega
    have hw2 : IntKind.wrap .i64 ((acc.length : Int) + 1) = (acc.length : Int) + 1 := wrap64 (by omega) (by omega)
    have hpos : (0 : Int) < ((n + 1 : Nat) : Int) := by omega
    have kk := fun fr => k11 l a j id ((acc.length : Int) + 1) fr st h ha (by omega) (by omega)
    generalize fd l a j ((acc.length : Int) + 1) = x at *
    have IH := fun T X => ih (j + 1) (acc ++ [x]) T X (by simp; omega) (by omega)
    rw [kof_snoc, show j + 1 + n = j + (n + 1) from by omega] at IH
    have hs1 := sizes_ints acc
    have hs2 := ints_snoc acc x
    have b1 : (acc.length + 1) * 8 ≤ 140737488355328 := by omega
    have b2 : acc.length + 1 ≤ 140737488355328 := by omega
    refine evK_loop c26_9 _ _ _ _ rfl ?_
    rcases kof_or 1 acc with ⟨hk, rfl⟩ | hk
    · have en : intVs [] = [] := rfl
      have en1 : intVs ([] ++ [x]) = [.int .i64 x] := rfl
      rw [en1] at IH
      rw [hk, en]
      simp only [List.length_nil, show ((0 : Nat) : Int) + 1 = 1 from rfl] at kk hw2
      have w1 : IntKind.wrap .i64 1 = 1 := wrap64 (by omega) (by omega)
      simp [-Int.natCast_add, hpos, hw, w1, kk, IH, -Int.not_le, -Int.not_lt, -Nat.not_le, -Nat.not_lt, ty3, ty4, ty22, ty23, hm, hl, hr, E26, n26_8]
    · rw [hk]
      simp [-Int.natCast_add, -List.append_assoc, hpos, hw, hw2, kk, hs1, hs2, b1, b2, IH, -Int.not_le, -Int.not_lt, -Nat.not_le, -Nat.not_lt, ty3, ty4, ty22, ty23, hm, hl, hr, E26, n26_8]
set_option maxHeartbeats 8000000 in
theorem c26 (l : List Int) (a j id : Nat) (most : Int) (st : St) (h : FeedOk st id) (ha : a < 549755813888) (hj : j < 549755811000) (hm1 : 1 ≤ most) (hm2 : most ≤ 8) :
    EvF gS 26 [.ptr id 0, .int .i64 most] (setF st id l (nA l a j)) = some (.ret (.slice (intVs (treeV l a j most))) none, setF st id l (nA l a (j + 1 + (fd l a j most).toNat))) := by
  refine EvF_start fi200_eq (fun x h => by cases h) m26 ?_
  rw [st26]
  have hm : fi26.marks = [1000000] := rfl
  have hl : fi26.locals = [] := rfl
  have hr : fi26.results = [.tmp 4] := rfl
  have hb := fd_bound l a j (n := most) hm1
  have kk := fun fr => k11 l a j id most fr st h ha (by omega) (by omega)
  unfold treeV
  obtain ⟨n, hn⟩ : ∃ n : Nat, fd l a j most = n := ⟨_, (Int.toNat_of_nonneg hb.1).symm⟩
  rw [hn] at kk hb ⊢
  simp only [Int.toNat_natCast]
  have LL := fun T X => L26 l a id ha st h most n (j + 1) [] T X (by simp; omega) (by omega)
  rw [show kof 1 ([] : List Int) = 0 from rfl, show intVs [] = [] from rfl] at LL
  simp [-Int.natCast_add, kk, LL, -Int.not_le, -Int.not_lt, -Nat.not_le, -Nat.not_lt, ty3, ty4, ty22, ty23, hm, hl, hr, E26, n26_8]
theorem k26 (l : List Int) (a j id : Nat) (most : Int) (fr : Fr) (st : St) (h : FeedOk st id) (ha : a < 549755813888) (hj : j < 549755811000) (hm1 : 1 ≤ most) (hm2 : most ≤ 8) :
    callStep gS (EvF gS) 26 [.ptr id 0, .int .i64 most] fr (setF st id l (nA l a j)) = some (.ok (.val (.slice (intVs (treeV l a j most)))) (fr.map E.noMem) (setF st id l (nA l a (j + 1 + (fd l a j most).toNat)))) := by
  unfold callStep
  simp only [show gS.ext 26 = none from rfl, fi200_eq, show fi26.pure = false from rfl, Bool.false_eq_true, if_false, c26 l a j id most st h ha hj hm1 hm2, retE]
end
end Go.Proofs.Ytdoobejjedpcgaa
namespace Go.Ab
open Go
set_option linter.unusedVariables false
set_option linter.unusedSimpArgs false
set_option linter.unnecessarySimpa false
/-- An object is given up, a new one lies in its place. -/
def apS (S : St) (id : Nat) (cs : List V) : St := { objs := S.objs.set id [] ++ [cs], wp := S.wp }
theorem apS_len (S : St) (id : Nat) (cs : List V) : (apS S id cs).objs.length = S.objs.length + 1 := by simp [apS]
theorem apS_wp (S : St) (id : Nat) (cs : List V) : (apS S id cs).wp = S.wp := rfl
theorem apS_new (S : St) (id : Nat) (cs : List V) : St.obj (apS S id cs) S.objs.length = some cs := by simp [apS, St.obj]
theorem apS_old (S : St) (id : Nat) (cs : List V) {i : Nat} (h : i ≠ id) (hi : i < S.objs.length) : St.obj (apS S id cs) i = St.obj S i := by
  simp only [apS, St.obj]
  rw [List.getElem?_append_left (by simpa using hi), List.getElem?_set_ne (Ne.symm h)]
theorem set_some {S : St} {id : Nat} (h : S.wp ≤ id) (cs : List V) : St.set S id cs = some { objs := S.objs.set id cs, wp := S.wp } := by unfold St.set; rw [if_pos h]
theorem newRef_ap (S : St) (id : Nat) (fr : Fr) (k len : Nat) (cs : List V) : newRef fr { objs := S.objs.set id [], wp := S.wp } k len cs = .ok (.val (.sref false k S.objs.length 0 len)) fr (apS S id cs) := by
  simp [newRef, apS]
theorem newRef_nw (S : St) (fr : Fr) (k len : Nat) (cs : List V) : newRef fr S k len cs = .ok (.val (.sref false k S.objs.length 0 len)) fr (nw S 0 cs) := by
  simp [newRef, nw]
theorem nw_obj0 (S : St) (cs : List V) : St.obj (nw S 0 cs) S.objs.length = some cs := by simp [nw, St.obj]
theorem nw_old (S : St) (cs : List V) {i : Nat} (hi : i < S.objs.length) : St.obj (nw S 0 cs) i = St.obj S i := by
  simp only [nw, St.obj]
  rw [List.getElem?_append_left hi]
/-- Numbers are appended to a row, one by one. -/
def apAll : List Int → St → Nat → List Int → St × Nat
  | [], S, id, _ => (S, id)
  | x :: r, S, id, acc => apAll r (apS S id (intVs (acc ++ [x]))) S.objs.length (acc ++ [x])
theorem apAll_facts : ∀ (r : List Int) (S : St) (id : Nat) (acc : List Int), S.wp ≤ id → id < S.objs.length → St.obj S id = some (intVs acc) →
    St.obj (apAll r S id acc).1 (apAll r S id acc).2 = some (intVs (acc ++ r)) ∧ (apAll r S id acc).1.wp = S.wp ∧ S.wp ≤ (apAll r S id acc).2 ∧ (apAll r S id acc).2 < (apAll r S id acc).1.objs.length ∧ S.objs.length ≤ (apAll r S id acc).1.objs.length ∧
      id ≤ (apAll r S id acc).2 ∧ ∀ i, i ≠ id → i < S.objs.length → St.obj (apAll r S id acc).1 i = St.obj S i
  | [], S, id, acc, h1, h2, h3 => by rw [List.append_nil]; exact ⟨h3, rfl, h1, h2, Nat.le_refl _, Nat.le_refl _, fun _ _ _ => rfl⟩
  | x :: r, S, id, acc, h1, h2, h3 => by
    obtain ⟨a1, a2, a3, a4, a5, a6, a7⟩ := apAll_facts r (apS S id (intVs (acc ++ [x]))) S.objs.length (acc ++ [x]) (by rw [apS_wp]; omega) (by rw [apS_len]; omega) (apS_new _ _ _)
    rw [apS_wp] at a2 a3
    rw [apS_len] at a5 a7
    simp only [apAll]
    rw [List.append_assoc, List.singleton_append] at a1
    exact ⟨a1, a2, a3, a4, by omega, by omega, fun i hi hl => by rw [a7 i (by omega) (by omega), apS_old _ _ _ hi hl]⟩
/-- How much of two ways is left when what they share at their ends is left out, but for its lowest broker. -/
def trimN (A B : List Int) : Nat → Nat → Nat → Nat × Nat
  | 0, a, b => (a, b)
  | k + 1, a, b => if 1 < a ∧ 1 < b ∧ A[a - 2]? = B[b - 2]? then trimN A B k (a - 1) (b - 1) else (a, b)
theorem trimN_le (A B : List Int) : ∀ (k a b : Nat), 0 < a → 0 < b → (trimN A B k a b).1 ≤ a ∧ (trimN A B k a b).2 ≤ b ∧ 0 < (trimN A B k a b).1 ∧ 0 < (trimN A B k a b).2
  | 0, a, b, h1, h2 => ⟨Nat.le_refl _, Nat.le_refl _, h1, h2⟩
  | k + 1, a, b, h1, h2 => by
    unfold trimN
    split
    · have := trimN_le A B k (a - 1) (b - 1) (by omega) (by omega)
      omega
    · exact ⟨Nat.le_refl _, Nat.le_refl _, h1, h2⟩
def joinT (A B : List Int) : List Int := A.take (trimN A B 100 A.length B.length).1 ++ (B.take ((trimN A B 100 A.length B.length).2 - 1)).reverse
def pathT (p : List Int) (a b : Nat) : List Int := joinT (upP p a) (upP p b)
theorem upP_len (p : List Int) (b : Nat) : 0 < (upP p b).length ∧ (upP p b).length ≤ b + 1 := by
  have := upF_len p b b
  simp only [upP, List.length_cons]; omega
theorem frz_ref {S : St} {id len : Nat} {l : List Int} (h : St.obj S id = some (intVs l)) (hw : S.wp ≤ id) (h0 : 0 < len) (hl : len ≤ l.length) :
    frz 6 S (.sref false 1 id 0 len) = some (.slice (intVs (l.take len)), { objs := S.objs.set id [], wp := S.wp }) := by
  have hstrip : ∀ l : List Int, (intVs l).map V.strip1 = intVs l := fun l => by simp only [intVs, List.map_map]; rfl
  have hone : ∀ l : List Int, (intVs l).all V.one = true := fun l => by simp [intVs, V.one]
  have hch : ∀ (l : List Int), chunk false 1 l.length (intVs l) = intVs l := by
    intro l
    induction l with
    | nil => rfl
    | cons x r ih => simp only [intVs, List.map_cons, List.length_cons, chunk, elemV] at ih ⊢; simp [ih]
  have hfl : ∀ (n : Nat) (S : St) (l : List Int), frzL (frz n) S (intVs l) = some (intVs l, S) := fun n S l => frzL_flat n S _ (flats_ints l)
  unfold frz
  simp only [h, set_some hw, Nat.mul_one, List.drop_zero, ints_take, hstrip, hfl, hone]
  rw [if_neg (by omega), if_pos (by constructor <;> simp; omega)]
  have hll : (l.take len).length = len := by simp; omega
  have := hch (l.take len)
  rw [hll] at this
  have hb : Nat.blt 1 1 = false := rfl
  rw [if_pos (by constructor <;> simp; omega), hb, this]
/-- What lies there when the way up has been told, and where the way lies. -/
def upS (p : List Int) (b : Nat) (S : St) : St × Nat := apAll (upF p b b) (nw S 0 (intVs [(b : Int)])) S.objs.length [(b : Int)]
theorem upS_facts (p : List Int) (b : Nat) (S : St) (h : S.wp ≤ S.objs.length) : St.obj (upS p b S).1 (upS p b S).2 = some (intVs (upP p b)) ∧ (upS p b S).1.wp = S.wp ∧ S.wp ≤ (upS p b S).2 ∧ (upS p b S).2 < (upS p b S).1.objs.length ∧ S.objs.length ≤ (upS p b S).2 ∧
    ∀ i, i < S.objs.length → St.obj (upS p b S).1 i = St.obj S i := by
  have hl : (nw S 0 (intVs [(b : Int)])).objs.length = S.objs.length + 1 := by simp [nw]
  obtain ⟨a1, a2, a3, a4, a5, a6, a7⟩ := apAll_facts (upF p b b) (nw S 0 (intVs [(b : Int)])) S.objs.length [(b : Int)] h (by rw [hl]; omega) (nw_obj0 _ _)
  exact ⟨a1, a2, a3, a4, a6, fun i hi => (a7 i (by omega) (by omega)).trans (nw_old _ _ hi)⟩
/-- The row is appended to and given up. -/
def finS (r : List Int) (S : St) (id : Nat) (acc : List Int) : St := { objs := (apAll r S id acc).1.objs.set (apAll r S id acc).2 [], wp := (apAll r S id acc).1.wp }
theorem ints_strip (l : List Int) : (intVs l).map V.strip1 = intVs l := by simp only [intVs, List.map_map]; rfl
theorem ints_one (l : List Int) : (intVs l).all V.one = true := by simp [intVs, V.one]
end Go.Ab
namespace Go.Proofs.Ytdoobejjedpcgaa
open Go Go.Ab
set_option linter.unusedVariables false
set_option linter.unusedSimpArgs false
set_option linter.unnecessarySimpa false
set_option maxRecDepth 20000
noncomputable section
variable (fr : Fr) (st : St) (k : Kt)
def fi101 : FI := { body := codeOf Try.f101, ntmps := 20, results := [.tmp 4], pers := [0, 1, 4, 5], locals := [], pure := false, marks := [7, 18] }
theorem fi203_eq : gS.fn 101 = some fi101 := by kernel_rfl
theorem st101 (a0 a1 : V) : startFr fi101 [a0, a1] = { ps := [(0, .val a0), (1, .val a1), (4, .any), (5, .any)], ts := [], lc := [] } := rfl
def b101 : Code := mini (codeOf Try.f101)
def c101_10 : Code := .cond (.tmp 9) .skip (.exit 0)
def c101_8 : Code := .seq (codeN b101 131) c101_10
def c101_16 : Code := codeN b101 419
def c101_14 : Code := .seq (codeN b101 291) c101_16
def c101_13 : Code := .block 1 c101_14
def c101_7 : Code := .seq c101_8 c101_13
def c101_6 : Code := .loop c101_7
def c101_17 : Code := .seq (codeN b101 23) .ret
def c101_4 : Code := .seq (.block 0 c101_6) c101_17
def c101_2 : Code := .seq (codeN b101 5) c101_4
def c101_0 : Code := .seq (codeN b101 2) c101_2
theorem E101 : evK gS fi101 c101_10 fr st k = condK gS fi101 (fr.op (.tmp 9)).bool? .skip (.exit 0) fr st k ∧
 (evK gS fi101 c101_8 fr st k = opsR gS fi101 [mv 8 1 3,
 op1 9 (.binOp .gtr 3 (.tmp 8) (.const (.int .i64 0)) 3) 4] fr st (.seq c101_10 k)) ∧
 (evK gS fi101 c101_16 fr st k = opsR gS fi101 [mv 15 5 22,
 mv 16 1 3,
 op1 17 (.buildSlice 22 1 #[(0, (.tmp 16))]) 22,
 op1 18 (.call { callee := (.builtin .append), args := #[(.tmp 15), (.tmp 17)], argTypes := #[22, 22] }) 22,
 asn 5 18 22] fr st k) ∧
 (evK gS fi101 c101_14 fr st k = opsR gS fi101 [mv 10 0 22,
 mv 11 1 3,
 op1 12 (.binOp .sub 3 (.tmp 11) (.const (.int .i64 1)) 3) 3,
 ixa 13 22 10 12 0,
 ld 14 3 13 3,
 asn 1 14 3] fr st (.seq c101_16 k)) ∧
 evK gS fi101 c101_13 fr st k = evK gS fi101 c101_14 fr st (.blk 1 k) ∧
 evK gS fi101 c101_7 fr st k = evK gS fi101 c101_8 fr st (.seq c101_13 k) ∧
 (evK gS fi101 c101_17 fr st k = opsR gS fi101 [mv 19 5 22,
 asn 4 19 22] fr st (.seq .ret k)) ∧
 evK gS fi101 c101_4 fr st k = evK gS fi101 c101_6 fr st (.blk 0 (.seq c101_17 k)) ∧
 (evK gS fi101 c101_2 fr st k = opsR gS fi101 [mv 6 1 3,
 op1 7 (.buildSlice 22 1 #[(0, (.tmp 6))]) 22,
 asn 5 7 22] fr st (.seq c101_4 k)) ∧
 evK gS fi101 c101_0 fr st k = opsR gS fi101 [op1 4 (.assign (.const (.slice none 0 0))) 22] fr st (.seq c101_2 k) := ⟨rfl, evK_rs 2 rfl (by kernel_rfl), evK_r 4 (by kernel_rfl), evK_rs 3 rfl (by kernel_rfl), rfl, rfl, evK_rs 5 rfl (by kernel_rfl), rfl, evK_rs 1 rfl (by kernel_rfl), evK_rs 0 rfl (by kernel_rfl)⟩
theorem m101 : mini fi101.body = c101_0 := by kernel_rfl
theorem n101_6 (fr : Fr) (st : St) (k : Kt) : nextK gS fi101 (.loop c101_7 k) .normal fr st = evK gS fi101 c101_6 fr st k := rfl
set_option maxHeartbeats 8000000 in
theorem L101 (p : List Int) (hp : upT 0 p = true) (hl7 : p.length ≤ 7) : ∀ (k b : Nat) (acc : List Int) (S : St) (id : Nat) (T : List (Nat × E)) (X : List (Nat × List V)), b ≤ k → b ≤ p.length → acc.length + k ≤ 100 → 0 < acc.length → S.wp ≤ id → id < S.objs.length → St.obj S id = some (intVs acc) →
    evK gS fi101 c101_6 { ps := [(0, .val (.slice (intVs p))), (1, .val (.int .i64 (b : Nat))), (4, .own 0 []), (5, .val (.sref false 1 id 0 acc.length))], ts := T, lc := X } S (.blk 0 (.seq c101_17 .nil)) = some (.ret (.sref false 1 (apAll (upF p k b) S id acc).2 0 (acc ++ upF p k b).length) none, (apAll (upF p k b) S id acc).1) := by
  intro k
  have hm : fi101.marks = [7, 18] := rfl
  have hl : fi101.locals = [] := rfl
  have hr : fi101.results = [.tmp 4] := rfl
  have hend : ∀ (acc : List Int) (S : St) (id : Nat) (T : List (Nat × E)) (X : List (Nat × List V)), evK gS fi101 c101_6 { ps := [(0, .val (.slice (intVs p))), (1, .val (.int .i64 0)), (4, .own 0 []), (5, .val (.sref false 1 id 0 acc.length))], ts := T, lc := X } S (.blk 0 (.seq c101_17 .nil)) = some (.ret (.sref false 1 id 0 acc.length) none, S) := by
    intro acc S id T X
    refine evK_loop c101_7 _ _ _ _ rfl ?_
    simp [-Int.not_le, -Int.not_lt, -Nat.not_le, -Nat.not_lt, ty3, ty4, ty22, hm, hl, hr, E101, n101_6]
  induction k with
  | zero =>
    intro b acc S id T X hb hb2 ha h0 hw hi ho
    obtain rfl : b = 0 := by omega
    rw [upF_zero, List.append_nil]
    exact hend acc S id T X
  | succ k ih =>
    intro b acc S id T X hb hb2 ha h0 hwp hi ho
    cases b with
    | zero => rw [upF_zero, List.append_nil]; exact hend acc S id T X
    | succ b =>
      obtain ⟨x, hx⟩ : ∃ x, p[b]? = some x := ⟨p[b]'(by omega), List.getElem?_eq_getElem (by omega)⟩
      obtain ⟨hlt2, hxe⟩ := List.getElem?_eq_some_iff.1 hx
      obtain ⟨h1, h2⟩ := upT_get p 0 b x hp hx
      obtain ⟨y, rfl⟩ : ∃ y : Nat, x = (y : Int) := ⟨x.toNat, by omega⟩
      rw [upF_succ p k b _ hx]
      have IH := fun T X => ih y (acc ++ [(y : Int)]) (apS S id (intVs (acc ++ [(y : Int)]))) S.objs.length T X (by omega) (by omega) (by simp; omega) (by simp) (by rw [apS_wp]; omega) (by rw [apS_len]; omega) (apS_new _ _ _)
      simp only [Int.toNat_natCast]
      rw [show apAll ((y : Int) :: upF p k y) S id acc = apAll (upF p k y) (apS S id (intVs (acc ++ [(y : Int)]))) S.objs.length (acc ++ [(y : Int)]) from rfl, List.append_cons acc (y : Int) (upF p k y)]
      rw [show (acc ++ [(y : Int)]).length = acc.length + 1 from by simp] at IH
      generalize apAll (upF p k y) (apS S id (intVs (acc ++ [(y : Int)]))) S.objs.length (acc ++ [(y : Int)]) = Q at IH ⊢
      generalize (acc ++ [(y : Int)] ++ upF p k y).length = L at IH ⊢
      have hw : IntKind.wrap .i64 (((b + 1 : Nat) : Int) - 1) = (b : Int) := by rw [wrap64 (by omega) (by omega)]; omega
      have hpos : (0 : Int) < ((b + 1 : Nat) : Int) := by omega
      have hs1 := ints_strip acc
      have hs2 := ints_one acc
      have hs3 := ints_snoc acc (y : Int)
      have hs4 := set_some hwp []
      have hs5 := newRef_ap S id
      have b1 : (acc.length + 1) * 8 ≤ 140737488355328 := by omega
      have b2 : acc.length + 1 ≤ 140737488355328 := by omega
      have b3 : ¬ acc.length = 0 := by omega
      refine evK_loop c101_7 _ _ _ _ rfl ?_
      simp [-St.obj, -St.set, -Int.natCast_add, -List.append_assoc, hw, hpos, hx, hxe, hlt2, ho, h0, hs1, hs2, hs3, hs4, hs5, b1, b2, b3, IH, markStep, markAppend, elemsAt, -Int.not_le, -Int.not_lt, -Nat.not_le, -Nat.not_lt, ty3, ty4, ty22, hm, hl, hr, E101, n101_6]
set_option maxHeartbeats 8000000 in
theorem c101 (p : List Int) (hp : upT 0 p = true) (hl7 : p.length ≤ 7) (b : Nat) (hb : b ≤ p.length) (S : St) (hS : S.wp ≤ S.objs.length) : EvF gS 101 [.slice (intVs p), .int .i64 (b : Nat)] S = some (.ret (.sref false 1 (upS p b S).2 0 (upP p b).length) none, (upS p b S).1) := by
  refine EvF_start fi203_eq (fun x h => by cases h) m101 ?_
  rw [st101]
  have hm : fi101.marks = [7, 18] := rfl
  have hl : fi101.locals = [] := rfl
  have hr : fi101.results = [.tmp 4] := rfl
  have LL := fun T X => L101 p hp hl7 b b [(b : Int)] (nw S 0 (intVs [(b : Int)])) S.objs.length T X (Nat.le_refl _) hb (by simp; omega) (by simp) hS (by simp [nw]) (nw_obj0 _ _)
  rw [show apAll (upF p b b) (nw S 0 (intVs [(b : Int)])) S.objs.length [(b : Int)] = upS p b S from rfl, show [(b : Int)] ++ upF p b b = upP p b from rfl, show [(b : Int)].length = 1 from rfl, show intVs [(b : Int)] = [.int .i64 (b : Int)] from rfl] at LL
  have hn := newRef_nw S
  simp [-St.obj, -St.set, -Int.natCast_add, LL, hn, markStep, -Int.not_le, -Int.not_lt, -Nat.not_le, -Nat.not_lt, ty3, ty4, ty22, hm, hl, hr, E101, n101_6]
theorem k101 (p : List Int) (hp : upT 0 p = true) (hl7 : p.length ≤ 7) (b : Nat) (hb : b ≤ p.length) (fr : Fr) (S : St) (hS : S.wp ≤ S.objs.length) : callStep gS (EvF gS) 101 [.slice (intVs p), .int .i64 (b : Nat)] fr S = some (.ok (.val (.sref false 1 (upS p b S).2 0 (upP p b).length)) (fr.map E.noMem) (upS p b S).1) := by
  unfold callStep
  simp only [show gS.ext 101 = none from rfl, fi203_eq, show fi101.pure = false from rfl, Bool.false_eq_true, if_false, c101 p hp hl7 b hb S hS, retE]
def fi79 : FI := { body := codeOf Try.f79, ntmps := 64, results := [.tmp 6], pers := [0, 1, 2, 6, 7, 8, 9], locals := [], pure := true, marks := [62, 1000000] }
theorem fi204_eq : gS.fn 79 = some fi79 := by kernel_rfl
theorem st79 (a0 a1 a2 : V) : startFr fi79 [a0, a1, a2] = { ps := [(0, .val a0), (1, .val a1), (2, .val a2), (6, .any), (7, .any), (8, .any), (9, .any)], ts := [], lc := [] } := rfl
def b79 : Code := mini (codeOf Try.f79)
def r79_9 : Array Oper := regOps (codeN (codeOf Try.f79) 131)
def c79_9 : Code := .region 2 r79_9 true
def q79_9 : List (Oper × Fl) := [(mv 16 7 22, ⟨true, false, true, false, false, false, true, true, false, false, []⟩),
 (len1 17 16 22 3, ⟨true, true, true, false, true, false, true, true, false, false, []⟩),
 (op1 18 (.binOp .gtr 3 (.tmp 17) (.const (.int .i64 1)) 3) 4, ⟨true, true, true, false, true, false, true, true, false, false, []⟩),
 (mv 19 18 4, ⟨true, true, true, false, true, false, true, true, false, false, []⟩),
 (mk (some 20) (.move (.tmp 8)) 22 (some (3, true)), ⟨true, false, true, false, false, false, true, true, false, false, []⟩),
 (mk (some 21) (.call { callee := (.builtin .len), args := #[(.tmp 20)], argTypes := #[22] }) 3 (some (3, true)), ⟨true, true, true, false, true, false, true, true, false, false, []⟩),
 (mk (some 22) (.binOp .gtr 3 (.tmp 21) (.const (.int .i64 1)) 3) 4 (some (3, true)), ⟨true, true, true, false, true, false, true, true, false, false, []⟩),
 (op1 23 (.pick (.tmp 19) (.tmp 22) (.const (.bool false))) 4, ⟨true, true, true, false, true, false, true, true, false, false, []⟩),
 (mv 24 23 4, ⟨true, true, true, false, true, false, true, true, false, false, []⟩),
 (mk (some 25) (.move (.tmp 7)) 22 (some (8, true)), ⟨true, false, true, false, false, false, true, true, false, false, []⟩),
 (mk (some 26) (.move (.tmp 7)) 22 (some (8, true)), ⟨true, false, true, false, false, false, true, true, false, false, []⟩),
 (mk (some 27) (.call { callee := (.builtin .len), args := #[(.tmp 26)], argTypes := #[22] }) 3 (some (8, true)), ⟨true, false, true, false, false, false, true, true, false, false, []⟩),
 (mk (some 28) (.binOp .sub 3 (.tmp 27) (.const (.int .i64 2)) 3) 3 (some (8, true)), ⟨true, false, true, false, false, false, true, true, false, false, []⟩),
 (mk (some 29) (.indexAddr 22 (.tmp 25) (.tmp 28)) 0 (some (8, true)), ⟨true, false, true, false, false, false, true, true, false, false, []⟩),
 (mk (some 30) (.load 3 (.tmp 29)) 3 (some (8, true)), ⟨true, false, true, false, false, false, true, true, false, false, []⟩),
 (mk (some 31) (.move (.tmp 8)) 22 (some (8, true)), ⟨true, false, true, false, false, false, true, true, false, false, []⟩),
 (mk (some 32) (.move (.tmp 8)) 22 (some (8, true)), ⟨true, false, true, false, false, false, true, true, false, false, []⟩),
 (mk (some 33) (.call { callee := (.builtin .len), args := #[(.tmp 32)], argTypes := #[22] }) 3 (some (8, true)), ⟨true, false, true, false, false, false, true, true, false, false, []⟩),
 (mk (some 34) (.binOp .sub 3 (.tmp 33) (.const (.int .i64 2)) 3) 3 (some (8, true)), ⟨true, false, true, false, true, false, true, true, false, false, []⟩),
 (mk (some 35) (.indexAddr 22 (.tmp 31) (.tmp 34)) 0 (some (8, true)), ⟨true, false, true, false, true, false, true, true, false, false, []⟩),
 (mk (some 36) (.load 3 (.tmp 35)) 3 (some (8, true)), ⟨true, false, true, false, true, false, true, true, false, false, []⟩),
 (mk (some 37) (.binOp .eql 3 (.tmp 30) (.tmp 36) 3) 4 (some (8, true)), ⟨true, false, true, false, true, false, true, true, false, false, []⟩),
 (op1 38 (.pick (.tmp 24) (.tmp 37) (.const (.bool false))) 4, ⟨true, false, true, false, true, false, true, true, false, false, []⟩)]
def c79_10 : Code := .cond (.tmp 38) .skip (.exit 0)
def c79_8 : Code := .seq c79_9 c79_10
def r79_14 : Array Oper := regOps (codeN (codeOf Try.f79) 163)
def c79_14 : Code := .region 3 r79_14 true
def q79_14 : List (Oper × Fl) := [(mv 39 7 22, ⟨true, false, true, false, false, false, true, true, false, false, []⟩),
 (mv 40 7 22, ⟨true, false, true, false, false, false, true, true, false, false, []⟩),
 (len1 41 40 22 3, ⟨true, false, true, false, false, false, true, true, false, false, []⟩),
 (op1 42 (.binOp .sub 3 (.tmp 41) (.const (.int .i64 1)) 3) 3, ⟨true, false, true, false, false, false, true, true, false, false, []⟩),
 (op1 43 (.slice 22 (.tmp 39) none (some (.tmp 42)) none) 22, ⟨true, false, true, false, false, false, true, true, false, false, []⟩),
 (mv 44 8 22, ⟨true, false, true, false, false, false, true, true, false, false, []⟩),
 (mv 45 8 22, ⟨true, false, true, false, false, false, true, true, false, false, []⟩),
 (len1 46 45 22 3, ⟨true, false, true, false, false, false, true, true, false, false, []⟩),
 (op1 47 (.binOp .sub 3 (.tmp 46) (.const (.int .i64 1)) 3) 3, ⟨true, false, true, false, false, false, true, true, false, false, []⟩),
 (op1 48 (.slice 22 (.tmp 44) none (some (.tmp 47)) none) 22, ⟨true, false, true, false, false, false, true, true, false, false, []⟩),
 (asn 7 43 22, ⟨true, false, true, false, true, false, true, true, false, false, []⟩),
 (asn 8 48 22, ⟨true, true, true, false, true, false, true, true, false, false, []⟩)]
def c79_13 : Code := .block 1 c79_14
def c79_7 : Code := .seq c79_8 c79_13
def c79_6 : Code := .loop c79_7
def c79_23 : Code := .cond (.tmp 53) .skip (.exit 2)
def c79_21 : Code := .seq (codeN b79 535) c79_23
def c79_28 : Code := codeN b79 1175
def c79_29 : Code := codeN b79 919
def c79_26 : Code := .seq (.block 3 c79_28) c79_29
def c79_20 : Code := .seq c79_21 c79_26
def c79_19 : Code := .loop c79_20
def c79_18 : Code := .block 2 c79_19
def c79_16 : Code := .seq (codeN b79 39) c79_18
def c79_30 : Code := .seq (codeN b79 47) .ret
def c79_15 : Code := .seq c79_16 c79_30
theorem e79_15 : evK gS fi79 c79_15 fr st k = evK gS fi79 c79_16 fr st (.seq c79_30 k) := rfl
def c79_4 : Code := .seq (.block 0 c79_6) c79_15
def c79_2 : Code := .seq (codeN b79 5) c79_4
def c79_0 : Code := .seq (codeN b79 2) c79_2
theorem E79 : evK gS fi79 c79_9 fr st k = drwR gS fi79 r79_9 q79_9 fr st k ∧
 evK gS fi79 c79_10 fr st k = condK gS fi79 (fr.op (.tmp 38)).bool? .skip (.exit 0) fr st k ∧
 evK gS fi79 c79_8 fr st k = evK gS fi79 c79_9 fr st (.seq c79_10 k) ∧
 evK gS fi79 c79_14 fr st k = drwR gS fi79 r79_14 q79_14 fr st k ∧
 evK gS fi79 c79_13 fr st k = evK gS fi79 c79_14 fr st (.blk 1 k) ∧
 evK gS fi79 c79_7 fr st k = evK gS fi79 c79_8 fr st (.seq c79_13 k) ∧
 evK gS fi79 c79_23 fr st k = condK gS fi79 (fr.op (.tmp 53)).bool? .skip (.exit 2) fr st k ∧
 (evK gS fi79 c79_21 fr st k = opsR gS fi79 [mv 52 9 3,
 op1 53 (.binOp .geq 3 (.tmp 52) (.const (.int .i64 0)) 3) 4] fr st (.seq c79_23 k)) ∧
 (evK gS fi79 c79_28 fr st k = opsR gS fi79 [mv 56 7 22,
 mv 57 8 22,
 mv 58 9 3,
 ixa 59 22 57 58 0,
 ld 60 3 59 3,
 op1 61 (.buildSlice 22 1 #[(0, (.tmp 60))]) 22,
 op1 62 (.call { callee := (.builtin .append), args := #[(.tmp 56), (.tmp 61)], argTypes := #[22, 22] }) 22,
 asn 7 62 22] fr st k) ∧
 (evK gS fi79 c79_29 fr st k = opsR gS fi79 [mv 54 9 3,
 op1 55 (.binOp .sub 3 (.tmp 54) (.const (.int .i64 1)) 3) 3,
 asn 9 55 3] fr st k) ∧
 evK gS fi79 c79_26 fr st k = evK gS fi79 c79_28 fr st (.blk 3 (.seq c79_29 k)) ∧
 evK gS fi79 c79_20 fr st k = evK gS fi79 c79_21 fr st (.seq c79_26 k) ∧
 evK gS fi79 c79_18 fr st k = evK gS fi79 c79_19 fr st (.blk 2 k) ∧
 (evK gS fi79 c79_16 fr st k = opsR gS fi79 [mv 49 8 22,
 len1 50 49 22 3,
 op1 51 (.binOp .sub 3 (.tmp 50) (.const (.int .i64 2)) 3) 3,
 asn 9 51 3] fr st (.seq c79_18 k)) ∧
 (evK gS fi79 c79_30 fr st k = opsR gS fi79 [mv 63 7 22,
 asn 6 63 22] fr st (.seq .ret k)) ∧
 evK gS fi79 c79_4 fr st k = evK gS fi79 c79_6 fr st (.blk 0 (.seq c79_15 k)) ∧
 (evK gS fi79 c79_2 fr st k = opsR gS fi79 [mv 10 0 22,
 mv 11 1 3,
 cal 12 101 [(.tmp 10), (.tmp 11)] [22, 3] 22,
 mv 13 0 22,
 mv 14 2 3,
 cal 15 101 [(.tmp 13), (.tmp 14)] [22, 3] 22,
 asn 7 12 22,
 asn 8 15 22] fr st (.seq c79_4 k)) ∧
 evK gS fi79 c79_0 fr st k = opsR gS fi79 [op1 6 (.assign (.const (.slice none 0 0))) 22] fr st (.seq c79_2 k) := ⟨evK_dr 2 rfl (by kernel_rfl) (by kernel_rfl), rfl, rfl, evK_dr 3 rfl (by kernel_rfl) (by kernel_rfl), rfl, rfl, rfl, evK_rs 5 rfl (by kernel_rfl), evK_r 7 (by kernel_rfl), evK_r 6 (by kernel_rfl), rfl, rfl, rfl, evK_rs 4 rfl (by kernel_rfl), evK_rs 8 rfl (by kernel_rfl), rfl, evK_rs 1 rfl (by kernel_rfl), evK_rs 0 rfl (by kernel_rfl)⟩
theorem m79 : mini fi79.body = c79_0 := by kernel_rfl
theorem n79_6 (fr : Fr) (st : St) (k : Kt) : nextK gS fi79 (.loop c79_7 k) .normal fr st = evK gS fi79 c79_6 fr st k := rfl
theorem n79_19 (fr : Fr) (st : St) (k : Kt) : nextK gS fi79 (.loop c79_20 k) .normal fr st = evK gS fi79 c79_19 fr st k := rfl
set_option maxHeartbeats 8000000 in
theorem L79_6 (A B : List Int) (S : St) (ida idb : Nat) (hA : St.obj S ida = some (intVs A)) (hB : St.obj S idb = some (intVs B)) (hA1 : A.length < 1000) (hB1 : B.length < 1000) (R : Out × St) (e0 e1 e2 : E) (t0 : e0.Tame) (t1 : e1.Tame) (t2 : e2.Tame) (X : List (Nat × List V)) : ∀ (k a b : Nat) (T : List (Nat × E))
    (H : ∀ T, evK gS fi79 c79_15 { ps := [(0, e0), (1, e1), (2, e2), (6, .own 0 []), (7, .val (.sref false 1 ida 0 (trimN A B k a b).1)), (8, .val (.sref false 1 idb 0 (trimN A B k a b).2)), (9, .any)], ts := T, lc := X } S .nil = some R), a ≤ k + 1 → a ≤ A.length → b ≤ B.length → evK gS fi79 c79_6 { ps := [(0, e0), (1, e1), (2, e2), (6, .own 0 []), (7, .val (.sref false 1 ida 0 a)), (8, .val (.sref false 1 idb 0 b)), (9, .any)], ts := T, lc := X } S (.blk 0 (.seq c79_15 .nil)) = some R := by
  intro k
  have hm : fi79.marks = [62, 1000000] := rfl
  have hl : fi79.locals = [] := rfl
  have hr : fi79.results = [.tmp 6] := rfl
  have hno : ∀ (a b : Nat) (T : List (Nat × E)) (H : ∀ T, evK gS fi79 c79_15 { ps := [(0, e0), (1, e1), (2, e2), (6, .own 0 []), (7, .val (.sref false 1 ida 0 a)), (8, .val (.sref false 1 idb 0 b)), (9, .any)], ts := T, lc := X } S .nil = some R), a ≤ A.length → b ≤ B.length → ¬ (1 < a ∧ 1 < b ∧ A[a - 2]? = B[b - 2]?) →
      evK gS fi79 c79_6 { ps := [(0, e0), (1, e1), (2, e2), (6, .own 0 []), (7, .val (.sref false 1 ida 0 a)), (8, .val (.sref false 1 idb 0 b)), (9, .any)], ts := T, lc := X } S (.blk 0 (.seq c79_15 .nil)) = some R := by
    intro a b T H ha hb hc
    refine evK_loop c79_7 _ _ _ _ rfl ?_
    by_cases c1 : 1 < a
    · have d1 : (1 : Int) < (a : Int) := by omega
      have w1 : IntKind.wrap .i64 ((a : Int) - 2) = ((a - 2 : Nat) : Int) := by rw [wrap64 (by omega) (by omega)]; omega
      obtain ⟨x, hx⟩ : ∃ x, A[a - 2]? = some x := ⟨A[a - 2]'(by omega), List.getElem?_eq_getElem (by omega)⟩
      obtain ⟨x1, x2⟩ := List.getElem?_eq_some_iff.1 hx
      have x3 : ((a - 2 : Nat) : Int) < (a : Int) := by omega
      have x4 : a - 2 < a := by omega
      by_cases c2 : 1 < b
      · have d2 : (1 : Int) < (b : Int) := by omega
        have w2 : IntKind.wrap .i64 ((b : Int) - 2) = ((b - 2 : Nat) : Int) := by rw [wrap64 (by omega) (by omega)]; omega
        obtain ⟨y, hy⟩ : ∃ y, B[b - 2]? = some y := ⟨B[b - 2]'(by omega), List.getElem?_eq_getElem (by omega)⟩
        obtain ⟨y1, y2⟩ := List.getElem?_eq_some_iff.1 hy
        have y3 : ((b - 2 : Nat) : Int) < (b : Int) := by omega
        have y4 : b - 2 < b := by omega
        have hne : ¬ x = y := fun e => hc ⟨c1, c2, by rw [hx, hy, e]⟩
        generalize a - 2 = p at *
        generalize b - 2 = q at *
        simp [-St.obj, -St.set, -Int.natCast_add, hA, hB, c1, c2, d1, d2, w1, w2, x1, x2, x3, x4, y1, y2, y3, y4, hx, hy, hne, t0, t1, t2, H, -Int.not_le, -Int.not_lt, -Nat.not_le, -Nat.not_lt, ty3, ty4, ty22, hm, hl, hr, fi203_eq, E79, q79_9, q79_14, n79_6, n79_19]
      · have d2 : ¬ (1 : Int) < (b : Int) := by omega
        simp [-St.obj, -St.set, -Int.natCast_add, hA, hB, c1, c2, d1, d2, t0, t1, t2, H, -Int.not_le, -Int.not_lt, -Nat.not_le, -Nat.not_lt, ty3, ty4, ty22, hm, hl, hr, fi203_eq, E79, q79_9, q79_14, n79_6, n79_19]
    · have d1 : ¬ (1 : Int) < (a : Int) := by omega
      simp [-St.obj, -St.set, -Int.natCast_add, c1, d1, t0, t1, t2, H, -Int.not_le, -Int.not_lt, -Nat.not_le, -Nat.not_lt, ty3, ty4, ty22, hm, hl, hr, fi203_eq, E79, q79_9, q79_14, n79_6, n79_19]
  induction k with
  | zero =>
    intro a b T H hk ha hb
    exact hno a b T H ha hb (by omega)
  | succ k ih =>
    intro a b T H hk ha hb
    unfold trimN at H
    by_cases hc : 1 < a ∧ 1 < b ∧ A[a - 2]? = B[b - 2]?
    · rw [if_pos hc] at H
      obtain ⟨c1, c2, c3⟩ := hc
      have IH := fun T => ih (a - 1) (b - 1) T H (by omega) (by omega) (by omega)
      have d1 : (1 : Int) < (a : Int) := by omega
      have w1 : IntKind.wrap .i64 ((a : Int) - 2) = ((a - 2 : Nat) : Int) := by rw [wrap64 (by omega) (by omega)]; omega
      have v1 : IntKind.wrap .i64 ((a : Int) - 1) = ((a - 1 : Nat) : Int) := by rw [wrap64 (by omega) (by omega)]; omega
      obtain ⟨x, hx⟩ : ∃ x, A[a - 2]? = some x := ⟨A[a - 2]'(by omega), List.getElem?_eq_getElem (by omega)⟩
      obtain ⟨x1, x2⟩ := List.getElem?_eq_some_iff.1 hx
      have x3 : ((a - 2 : Nat) : Int) < (a : Int) := by omega
      have x4 : a - 2 < a := by omega
      have d2 : (1 : Int) < (b : Int) := by omega
      have w2 : IntKind.wrap .i64 ((b : Int) - 2) = ((b - 2 : Nat) : Int) := by rw [wrap64 (by omega) (by omega)]; omega
      have v2 : IntKind.wrap .i64 ((b : Int) - 1) = ((b - 1 : Nat) : Int) := by rw [wrap64 (by omega) (by omega)]; omega
      have hy : B[b - 2]? = some x := by rw [← c3]; exact hx
      obtain ⟨y1, y2⟩ := List.getElem?_eq_some_iff.1 hy
      have y3 : ((b - 2 : Nat) : Int) < (b : Int) := by omega
      have y4 : b - 2 < b := by omega
      have g1 : ((a - 1 : Nat) : Int) ≤ (a : Int) := by omega
      have g2 : ((b - 1 : Nat) : Int) ≤ (b : Int) := by omega
      have i1 : a - 1 ≤ a := by omega
      have i2 : b - 1 ≤ b := by omega
      have n1 : ¬ 0 = a - 1 := by omega
      have n2 : ¬ 0 = b - 1 := by omega
      have n3 : ¬ a - 1 = 0 := by omega
      have n4 : ¬ b - 1 = 0 := by omega
      refine evK_loop c79_7 _ _ _ _ rfl ?_
      generalize a - 2 = p at *
      generalize b - 2 = q at *
      generalize a - 1 = p1 at *
      generalize b - 1 = q1 at *
      simp [-St.obj, -St.set, -Int.natCast_add, hA, hB, c1, c2, d1, d2, w1, w2, v1, v2, x1, x2, x3, x4, y1, y2, y3, y4, hx, hy, g1, g2, i1, i2, n1, n2, n3, n4, t0, t1, t2, IH, -Int.not_le, -Int.not_lt, -Nat.not_le, -Nat.not_lt, ty3, ty4, ty22, hm, hl, hr, fi203_eq, E79, q79_9, q79_14, n79_6, n79_19]
    · rw [if_neg hc] at H
      exact hno a b T H ha hb hc
set_option maxHeartbeats 8000000 in
theorem L79_19 (B : List Int) (b idb : Nat) (hb : b ≤ B.length) (hB1 : B.length < 1000) (e0 e1 e2 : E) (t0 : e0.Tame) (t1 : e1.Tame) (t2 : e2.Tame) (X : List (Nat × List V)) : ∀ (n : Nat) (acc C : List Int) (S : St) (ida : Nat) (T : List (Nat × E)), n ≤ b → 0 < acc.length → acc.length + n < 100000 →
    St.obj S ida = some (intVs C) → acc.length ≤ C.length → C.take acc.length = acc → S.wp ≤ ida → ida < S.objs.length → St.obj S idb = some (intVs B) → idb < S.objs.length → ida ≠ idb →
    evK gS fi79 c79_19 { ps := [(0, e0), (1, e1), (2, e2), (6, .own 0 []), (7, .val (.sref false 1 ida 0 acc.length)), (8, .val (.sref false 1 idb 0 b)), (9, .val (.int .i64 (((n : Nat) : Int) - 1)))], ts := T, lc := X } S (.blk 2 (.seq c79_30 .nil)) = some (.ret (.slice (intVs (acc ++ (B.take n).reverse))) none, finS (B.take n).reverse S ida acc) := by
  intro n
  have hm : fi79.marks = [62, 1000000] := rfl
  have hl : fi79.locals = [] := rfl
  have hr : fi79.results = [.tmp 6] := rfl
  induction n with
  | zero =>
    intro acc C S ida T hn h0 ha hA hl hC hw hi hB hib hne
    rw [show (((0 : Nat) : Int) - 1) = -1 from rfl, List.take_zero, List.reverse_nil, List.append_nil]
    have hz := frz_ref hA hw h0 hl
    rw [hC] at hz
    rw [show finS [] S ida acc = { objs := S.objs.set ida [], wp := S.wp } from rfl]
    refine evK_loop c79_20 _ _ _ _ rfl ?_
    simp [-St.obj, -St.set, hz, t0, t1, t2, -Int.not_le, -Int.not_lt, -Nat.not_le, -Nat.not_lt, ty3, ty4, ty22, hm, hl, hr, fi203_eq, E79, q79_9, q79_14, e79_15, n79_6, n79_19]
  | succ n ih =>
    intro acc C S ida T hn h0 ha hA hl hC hwp hi hB hib hne
    rw [show (((n + 1 : Nat) : Int) - 1) = (n : Int) from by omega]
    obtain ⟨x, hx⟩ : ∃ x, B[n]? = some x := ⟨B[n]'(by omega), List.getElem?_eq_getElem (by omega)⟩
    obtain ⟨x1, x2⟩ := List.getElem?_eq_some_iff.1 hx
    have x3 : (n : Int) < (b : Int) := by omega
    have x4 : n < b := by omega
    rw [take_rev B n x hx]
    rw [show finS (x :: (B.take n).reverse) S ida acc = finS (B.take n).reverse (apS S ida (intVs (acc ++ [x]))) S.objs.length (acc ++ [x]) from rfl, List.append_cons acc x (B.take n).reverse]
    have IH := fun T => ih (acc ++ [x]) (acc ++ [x]) (apS S ida (intVs (acc ++ [x]))) S.objs.length T (by omega) (by simp) (by simp; omega) (apS_new _ _ _) (Nat.le_refl _) (List.take_length) (by rw [apS_wp]; omega) (by rw [apS_len]; omega) (by rw [apS_old _ _ _ (Ne.symm hne) hib]; exact hB) (by rw [apS_len]; omega) (by omega)
    rw [show (acc ++ [x]).length = acc.length + 1 from by simp] at IH
    generalize finS (B.take n).reverse (apS S ida (intVs (acc ++ [x]))) S.objs.length (acc ++ [x]) = Q at IH ⊢
    generalize intVs (acc ++ [x] ++ (B.take n).reverse) = L at IH ⊢
    have hw : IntKind.wrap .i64 ((n : Int) - 1) = (n : Int) - 1 := by rw [wrap64 (by omega) (by omega)]
    have hge : (0 : Int) ≤ (n : Int) := by omega
    have hs1 := ints_strip acc
    have hs2 := ints_one acc
    have hs3 := ints_snoc acc x
    have hs4 := set_some hwp []
    have hs5 := newRef_ap S ida
    have b1 : (acc.length + 1) * 8 ≤ 140737488355328 := by omega
    have b2 : acc.length + 1 ≤ 140737488355328 := by omega
    have b3 : ¬ acc.length = 0 := by omega
    refine evK_loop c79_20 _ _ _ _ rfl ?_
    rcases Nat.lt_or_ge acc.length C.length with hlc | hlc
    · have hC2 : (intVs C).take acc.length = intVs acc := by rw [ints_take, hC]
      have hlc2 : ¬ C.length = acc.length := by omega
      simp [-St.obj, -St.set, -Int.natCast_add, -List.append_assoc, hw, hge, hx, x1, x2, x3, x4, hA, hB, h0, hs1, hs2, hs3, hs4, hs5, b1, b2, b3, hC2, hlc, hlc2, t0, t1, t2, IH, markStep, markAppend, elemsAt, -Int.not_le, -Int.not_lt, -Nat.not_le, -Nat.not_lt, ty3, ty4, ty22, hm, hl, hr, fi203_eq, E79, q79_9, q79_14, e79_15, n79_6, n79_19]
    · obtain rfl : C = acc := by rw [List.take_of_length_le hlc] at hC; exact hC
      simp [-St.obj, -St.set, -Int.natCast_add, -List.append_assoc, hw, hge, hx, x1, x2, x3, x4, hA, hB, h0, hs1, hs2, hs3, hs4, hs5, b1, b2, b3, t0, t1, t2, IH, markStep, markAppend, elemsAt, -Int.not_le, -Int.not_lt, -Nat.not_le, -Nat.not_lt, ty3, ty4, ty22, hm, hl, hr, fi203_eq, E79, q79_9, q79_14, e79_15, n79_6, n79_19]
set_option maxHeartbeats 8000000 in
theorem c79 (p : List Int) (hp : upT 0 p = true) (hl7 : p.length ≤ 7) (a b : Nat) (ha : a ≤ p.length) (hb : b ≤ p.length) (S : St) (hS : S.wp ≤ S.objs.length) : ∃ st', EvF gS 79 [.slice (intVs p), .int .i64 (a : Nat), .int .i64 (b : Nat)] S = some (.ret (.slice (intVs (pathT p a b))) none, st') := by
  have hm : fi79.marks = [62, 1000000] := rfl
  have hl : fi79.locals = [] := rfl
  have hr : fi79.results = [.tmp 6] := rfl
  obtain ⟨f1, f2, f3, f4, f5, f6⟩ := upS_facts p a S hS
  have k1 := fun fr => k101 p hp hl7 a ha fr S hS
  have hS1 : (upS p a S).1.wp ≤ (upS p a S).1.objs.length := by omega
  obtain ⟨g1, g2, g3, g4, g5, g6⟩ := upS_facts p b (upS p a S).1 hS1
  have k2 := fun fr => k101 p hp hl7 b hb fr (upS p a S).1 hS1
  have la := upP_len p a
  have lb := upP_len p b
  have f1' := (g6 _ f4).trans f1
  unfold pathT
  generalize upP p a = A at *
  generalize upP p b = B at *
  generalize upS p b (upS p a S).1 = Q2 at *
  generalize upS p a S = Q1 at *
  obtain ⟨S1, ida⟩ := Q1
  obtain ⟨S2, idb⟩ := Q2
  simp only at *
  have ht := trimN_le A B 100 A.length B.length la.1 lb.1
  have hw1 : S2.wp ≤ ida := by omega
  have hne : ida ≠ idb := by omega
  have hl2 : ida < S2.objs.length := by omega
  refine ⟨finS (B.take ((trimN A B 100 A.length B.length).2 - 1)).reverse S2 ida (A.take (trimN A B 100 A.length B.length).1), ?_⟩
  refine EvF_start fi204_eq (fun x h => by cases h) m79 ?_
  rw [st79]
  have LL := fun R e0 e1 e2 t0 t1 t2 X T H => L79_6 A B S2 ida idb f1' g1 (by omega) (by omega) R e0 e1 e2 t0 t1 t2 X 100 A.length B.length T H (by omega) (Nat.le_refl _) (Nat.le_refl _)
  unfold joinT
  generalize trimN A B 100 A.length B.length = q at *
  obtain ⟨qa, qb⟩ := q
  simp only at *
  have hta : (A.take qa).length = qa := by simp; omega
  have MM := fun e0 e1 e2 t0 t1 t2 X T => L79_19 B qb idb (by omega) (by omega) e0 e1 e2 t0 t1 t2 X (qb - 1) (A.take qa) A S2 ida T (by omega) (by omega) (by omega) f1' (by omega) (by rw [hta]) hw1 hl2 g1 g4 hne
  rw [hta] at MM
  generalize hR : (Out.ret (V.slice (intVs (A.take qa ++ (B.take (qb - 1)).reverse))) none, finS (B.take (qb - 1)).reverse S2 ida (A.take qa)) = R at *
  have hv : IntKind.wrap .i64 ((qb : Int) - 2) = ((qb - 1 : Nat) : Int) - 1 := by rw [wrap64 (by omega) (by omega)]; omega
  simp [-St.obj, -St.set, -Int.natCast_add, k1, k2, -Int.not_le, -Int.not_lt, -Nat.not_le, -Nat.not_lt, ty3, ty4, ty22, hm, hl, hr, fi203_eq, E79, q79_9, q79_14, e79_15, n79_6, n79_19]
  refine LL _ _ _ _ ?_ ?_ ?_ _ _ (fun T => ?_)
  · simp
  · simp
  · simp
  simp [-St.obj, -St.set, -Int.natCast_add, hv, -Int.not_le, -Int.not_lt, -Nat.not_le, -Nat.not_lt, ty3, ty4, ty22, hm, hl, hr, fi203_eq, E79, q79_9, q79_14, e79_15, n79_6, n79_19]
  refine MM _ _ _ ?_ ?_ ?_ _ _
  all_goals simp
theorem k79 (p : List Int) (hp : upT 0 p = true) (hl7 : p.length ≤ 7) (a b : Nat) (ha : a ≤ p.length) (hb : b ≤ p.length) (fr : Fr) (st : St) : callStep gS (EvF gS) 79 [.slice (intVs p), .int .i64 (a : Nat), .int .i64 (b : Nat)] fr st = some (.ok (.val (.slice (intVs (pathT p a b)))) fr st) :=
  call_pure' rfl fi204_eq rfl (by simp [flats, V.flat]) (c79 p hp hl7 a b ha hb ⟨[], 0⟩ (Nat.le_refl _)) (by simp [V.flat])
end
end Go.Proofs.Ytdoobejjedpcgaa
namespace Go.Ab
open Go
set_option linter.unusedVariables false
set_option linter.unusedSimpArgs false
set_option linter.unnecessarySimpa false
/-- May they all be, in this order, behind one, so many of its client? -/
def rsG : Option Sub → Int → List Sub → Bool
  | _, _, [] => true
  | none, _, s :: r => mayS s && rsG (some s) 1 r
  | some t, many, s :: r => mayS s && (if t.client < s.client then rsG (some s) 1 r else !(decide (s.client < t.client) || decide (s.num ≤ t.num) || !decide (t.broker = s.broker) || decide (3 < many + 1)) && rsG (some s) (many + 1) r)
def rightS (l : List Sub) : Bool := rsG none 0 l
end Go.Ab
namespace Go.Proofs.Ytdoobejjedpcgaa
open Go Go.Ab
set_option linter.unusedVariables false
set_option linter.unusedSimpArgs false
set_option linter.unnecessarySimpa false
set_option maxRecDepth 20000
noncomputable section
variable (fr : Fr) (st : St) (k : Kt)
theorem is_nat {p : List Int} {a : Int} (h : isT p a = true) : upT 0 p = true ∧ p.length ≤ 7 ∧ ∃ k : Nat, a = (k : Int) ∧ k ≤ p.length := by
  simp only [isT, rightT, Bool.and_eq_true, decide_eq_true_eq] at h
  exact ⟨h.1.1.1, by omega, a.toNat, by omega, by omega⟩
end
end Go.Proofs.Ytdoobejjedpcgaa
namespace Go.Proofs.Ytdoobejjedpcgaa
open Go Go.Ab
set_option linter.unusedVariables false
set_option linter.unusedSimpArgs false
set_option linter.unnecessarySimpa false
set_option maxRecDepth 20000
noncomputable section
variable (fr : Fr) (st : St) (k : Kt)
/-- A row of atoms as it is handed on. -/
def OutA (e : E) (l : List Atom) : Prop := (e = .own 0 [] ∧ l = []) ∨ e = .val (.slice (encAtoms l))
theorem OutA.firm {e : E} {l : List Atom} (h : OutA e l) : e.Firm := by rcases h with ⟨rfl, _⟩ | rfl <;> rfl
end
end Go.Proofs.Ytdoobejjedpcgaa
namespace Go.Proofs.Ytdoobejjedpcgaa
open Go Go.Ab
set_option linter.unusedVariables false
set_option linter.unusedSimpArgs false
set_option linter.unnecessarySimpa false
set_option maxRecDepth 20000
noncomputable section
variable (fr : Fr) (st : St) (k : Kt)
theorem sizes_predss (l : List (List Pred)) : sizesOk 1 (encPredss l) = true := by
  induction l with
  | nil => rfl
  | cons x r ih => simp only [encPredss, List.map_cons, sizesOk] at ih ⊢; rw [ih]; rfl
theorem predss_snoc (l : List (List Pred)) (f : List Pred) : encPredss l ++ [.slice (encPreds f)] = encPredss (l ++ [f]) := by simp [encPredss]
def fi69 : FI := { body := codeOf Try.f69, ntmps := 54, results := [.tmp 2], pers := [0, 2, 3, 5, 6, 8, 9, 11, 12, 13, 14, 18, 19, 20, 32, 33, 34], locals := [], pure := true, marks := [1000000] }
theorem fi49_eq : gS.fn 69 = some fi69 := by kernel_rfl
theorem st69 (a0 : V) : startFr fi69 [a0] = { ps := [(0, .val a0), (2, .any), (3, .any), (5, .any), (6, .any), (8, .any), (9, .any), (11, .any), (12, .any), (13, .any), (14, .any), (18, .any), (19, .any), (20, .any), (32, .any), (33, .any), (34, .any)], ts := [], lc := [] } := rfl
def b69 : Code := mini (codeOf Try.f69)
def c69_36 : Code := codeN b69 3353803
def c69_34 : Code := .seq (codeN b69 2305227) c69_36
def c69_37 : Code := codeN b69 994507
def c69_32 : Code := .seq (.block 3 c69_34) c69_37
def c69_28 : Code := .seq (.cond (.tmp 21) .skip (.exit 2)) c69_32
def c69_26 : Code := .seq (codeN b69 142539) c69_28
def c69_25 : Code := .loop c69_26
def c69_24 : Code := .block 2 c69_25
def c69_22 : Code := .seq (codeN b69 19659) c69_24
def c69_41 : Code := .cond (.tmp 31) (.exit 1) .skip
def c69_39 : Code := .seq (codeN b69 40139) c69_41
def c69_64 : Code := codeN b69 93945035
def c69_63 : Code := .cond (.tmp 41) c69_64 .skip
def c69_61 : Code := .seq (codeN b69 43613387) c69_63
def c69_59 : Code := .seq (codeN b69 18447563) c69_61
def c69_66 : Code := codeN b69 7961803
def c69_57 : Code := .seq (.block 5 c69_59) c69_66
def c69_53 : Code := .seq (.cond (.tmp 35) .skip (.exit 4)) c69_57
def c69_51 : Code := .seq (codeN b69 1146059) c69_53
def c69_50 : Code := .loop c69_51
def c69_49 : Code := .block 4 c69_50
def c69_47 : Code := .seq (codeN b69 163019) c69_49
def c69_67 : Code := codeN b69 130251
theorem e69_67 : evK gS fi69 c69_67 fr st k = opsR gS fi69 [mv 47 9 77,
 mv 48 5 29,
 cal 49 50 [(.tmp 48)] [29] 29,
 op1 50 (.buildSlice 77 1 #[(0, (.tmp 49))]) 77,
 op1 51 (.call { callee := (.builtin .append), args := #[(.tmp 47), (.tmp 50)], argTypes := #[77, 77] }) 77,
 asn 3 51 77] fr st k := evK_r 19 (by kernel_rfl)
def c69_46 : Code := .seq c69_47 c69_67
def c69_44 : Code := .seq (codeN b69 48331) c69_46
def c69_38 : Code := .seq c69_39 c69_44
theorem e69_38 : evK gS fi69 c69_38 fr st k = evK gS fi69 c69_39 fr st (.seq c69_44 k) := rfl
def c69_21 : Code := .seq c69_22 c69_38
def c69_19 : Code := .seq (codeN b69 5323) c69_21
def c69_17 : Code := .seq (codeN b69 2251) c69_19
def c69_68 : Code := codeN b69 971
def c69_15 : Code := .seq (.block 1 c69_17) c69_68
def c69_11 : Code := .seq (.cond (.tmp 15) .skip (.exit 0)) c69_15
def c69_9 : Code := .seq (codeN b69 139) c69_11
def c69_8 : Code := .loop c69_9
def c69_7 : Code := .block 0 c69_8
def c69_5 : Code := .seq (codeN b69 19) c69_7
def c69_69 : Code := .seq (codeN b69 23) .ret
def c69_4 : Code := .seq c69_5 c69_69
def c69_2 : Code := .seq (codeN b69 5) c69_4
def c69_0 : Code := .seq (codeN b69 2) c69_2
theorem E69 : (evK gS fi69 c69_36 fr st k = opsR gS fi69 [mv 24 6 4,
 mv 25 24 4,
 mk (some 26) (.move (.tmp 8)) 29 (some (1, false)),
 mk (some 27) (.move (.tmp 5)) 29 (some (1, false)),
 mk (some 28) (.call { callee := (.value (.func 95)), args := #[(.tmp 26), (.tmp 27)], argTypes := #[29, 29] }) 4 (some (1, false)),
 op1 29 (.pick (.tmp 25) (.const (.bool true)) (.tmp 28)) 4,
 asn 6 29 4] fr st k) ∧
 (evK gS fi69 c69_34 fr st k = opsR gS fi69 [ixa 22 77 18 20 0,
 ld 23 29 22 29,
 asn 8 23 29] fr st (.seq c69_36 k)) ∧
 (evK gS fi69 c69_37 fr st k = opsR gS fi69 [op1 30 (.binOp .add 3 (.tmp 20) (.const (.int .i64 1)) 3) 3,
 mv 20 30 3] fr st k) ∧
 evK gS fi69 c69_32 fr st k = evK gS fi69 c69_34 fr st (.blk 3 (.seq c69_37 k)) ∧
 evK gS fi69 c69_28 fr st k = condK gS fi69 (fr.op (.tmp 21)).bool? .skip (.exit 2) fr st (.seq c69_32 k) ∧
 evK gS fi69 c69_26 fr st k = opsR gS fi69 [bop 21 .lss 3 20 19 3 0] fr st (.seq c69_28 k) ∧
 evK gS fi69 c69_24 fr st k = evK gS fi69 c69_25 fr st (.blk 2 k) ∧
 (evK gS fi69 c69_22 fr st k = opsR gS fi69 [mv 18 3 77,
 len1 19 18 77 3,
 op1 20 (.move (.const (.int .i64 0))) 3] fr st (.seq c69_24 k)) ∧
 evK gS fi69 c69_41 fr st k = condK gS fi69 (fr.op (.tmp 31)).bool? (.exit 1) .skip fr st k ∧
 evK gS fi69 c69_39 fr st k = opsR gS fi69 [mv 31 6 4] fr st (.seq c69_41 k) ∧
 (evK gS fi69 c69_64 fr st k = opsR gS fi69 [mv 42 9 77,
 mv 43 11 29,
 op1 44 (.buildSlice 77 1 #[(0, (.tmp 43))]) 77,
 op1 45 (.call { callee := (.builtin .append), args := #[(.tmp 42), (.tmp 44)], argTypes := #[77, 77] }) 77,
 asn 9 45 77] fr st k) ∧
 evK gS fi69 c69_63 fr st k = condK gS fi69 (fr.op (.tmp 41)).bool? c69_64 .skip fr st k ∧
 (evK gS fi69 c69_61 fr st k = opsR gS fi69 [mv 38 5 29,
 mv 39 11 29,
 cal 40 95 [(.tmp 38), (.tmp 39)] [29, 29] 4,
 op1 41 (.unOp .not 4 (.tmp 40)) 4] fr st (.seq c69_63 k)) ∧
 (evK gS fi69 c69_59 fr st k = opsR gS fi69 [ixa 36 77 32 34 0,
 ld 37 29 36 29,
 asn 11 37 29] fr st (.seq c69_61 k)) ∧
 (evK gS fi69 c69_66 fr st k = opsR gS fi69 [op1 46 (.binOp .add 3 (.tmp 34) (.const (.int .i64 1)) 3) 3,
 mv 34 46 3] fr st k) ∧
 evK gS fi69 c69_57 fr st k = evK gS fi69 c69_59 fr st (.blk 5 (.seq c69_66 k)) ∧
 evK gS fi69 c69_53 fr st k = condK gS fi69 (fr.op (.tmp 35)).bool? .skip (.exit 4) fr st (.seq c69_57 k) ∧
 evK gS fi69 c69_51 fr st k = opsR gS fi69 [bop 35 .lss 3 34 33 3 0] fr st (.seq c69_53 k) ∧
 evK gS fi69 c69_49 fr st k = evK gS fi69 c69_50 fr st (.blk 4 k) ∧
 (evK gS fi69 c69_47 fr st k = opsR gS fi69 [mv 32 3 77,
 len1 33 32 77 3,
 op1 34 (.move (.const (.int .i64 0))) 3] fr st (.seq c69_49 k)) ∧
 evK gS fi69 c69_46 fr st k = evK gS fi69 c69_47 fr st (.seq c69_67 k) ∧
 evK gS fi69 c69_44 fr st k = opsR gS fi69 [op1 9 (.assign (.const (.slice none 0 0))) 77] fr st (.seq c69_46 k) ∧
 evK gS fi69 c69_21 fr st k = evK gS fi69 c69_22 fr st (.seq c69_38 k) ∧
 evK gS fi69 c69_19 fr st k = opsR gS fi69 [op1 6 (.assign (.const (.bool false))) 4] fr st (.seq c69_21 k) ∧
 (evK gS fi69 c69_17 fr st k = opsR gS fi69 [ixa 16 77 12 14 0,
 ld 17 29 16 29,
 asn 5 17 29] fr st (.seq c69_19 k)) ∧
 (evK gS fi69 c69_68 fr st k = opsR gS fi69 [op1 52 (.binOp .add 3 (.tmp 14) (.const (.int .i64 1)) 3) 3,
 mv 14 52 3] fr st k) ∧
 evK gS fi69 c69_15 fr st k = evK gS fi69 c69_17 fr st (.blk 1 (.seq c69_68 k)) ∧
 evK gS fi69 c69_11 fr st k = condK gS fi69 (fr.op (.tmp 15)).bool? .skip (.exit 0) fr st (.seq c69_15 k) ∧
 evK gS fi69 c69_9 fr st k = opsR gS fi69 [bop 15 .lss 3 14 13 3 0] fr st (.seq c69_11 k) ∧
 evK gS fi69 c69_7 fr st k = evK gS fi69 c69_8 fr st (.blk 0 k) ∧
 (evK gS fi69 c69_5 fr st k = opsR gS fi69 [mv 12 0 77,
 len1 13 12 77 3,
 op1 14 (.move (.const (.int .i64 0))) 3] fr st (.seq c69_7 k)) ∧
 (evK gS fi69 c69_69 fr st k = opsR gS fi69 [mv 53 3 77,
 asn 2 53 77] fr st (.seq .ret k)) ∧
 evK gS fi69 c69_4 fr st k = evK gS fi69 c69_5 fr st (.seq c69_69 k) ∧
 evK gS fi69 c69_2 fr st k = opsR gS fi69 [op1 3 (.assign (.const (.slice none 0 0))) 77] fr st (.seq c69_4 k) ∧
 evK gS fi69 c69_0 fr st k = opsR gS fi69 [op1 2 (.assign (.const (.slice none 0 0))) 77] fr st (.seq c69_2 k) := ⟨evK_r 9 (by kernel_rfl), evK_rs 8 rfl (by kernel_rfl), evK_r 10 (by kernel_rfl), rfl, rfl, evK_rs 7 rfl (by kernel_rfl), rfl, evK_rs 6 rfl (by kernel_rfl), rfl, evK_rs 11 rfl (by kernel_rfl), evK_r 17 (by kernel_rfl), rfl, evK_rs 16 rfl (by kernel_rfl), evK_rs 15 rfl (by kernel_rfl), evK_r 18 (by kernel_rfl), rfl, rfl, evK_rs 14 rfl (by kernel_rfl), rfl, evK_rs 13 rfl (by kernel_rfl), rfl, evK_rs 12 rfl (by kernel_rfl), rfl, evK_rs 5 rfl (by kernel_rfl), evK_rs 4 rfl (by kernel_rfl), evK_r 20 (by kernel_rfl), rfl, rfl, evK_rs 3 rfl (by kernel_rfl), rfl, evK_rs 2 rfl (by kernel_rfl), evK_rs 21 rfl (by kernel_rfl), rfl, evK_rs 1 rfl (by kernel_rfl), evK_rs 0 rfl (by kernel_rfl)⟩
theorem m69 : mini fi69.body = c69_0 := by kernel_rfl
theorem n69_25 (fr : Fr) (st : St) (k : Kt) : nextK gS fi69 (.loop c69_26 k) .normal fr st = evK gS fi69 c69_25 fr st k := rfl
theorem n69_50 (fr : Fr) (st : St) (k : Kt) : nextK gS fi69 (.loop c69_51 k) .normal fr st = evK gS fi69 c69_50 fr st k := rfl
theorem n69_8 (fr : Fr) (st : St) (k : Kt) : nextK gS fi69 (.loop c69_9 k) .normal fr st = evK gS fi69 c69_8 fr st k := rfl
set_option maxHeartbeats 8000000 in
theorem A69 (l : List (List Pred)) (h_l : ∀ f ∈ l, PSm f) (h_n : l.length ≤ 1000000) (io : Nat) (f : List Pred) (hio : l[io]? = some f) (row : List (List Pred)) (h_r : ∀ g ∈ row, PSm g) (h_m : row.length ≤ 1000000) (kr : Nat) (st : St) (R : Out × St) (fb : Bool)
    (H : ∀ (e0 e8 e9 e11 e32 e33 e34 : E) (T : List (Nat × E)) (X : List (Nat × List V)) (ht0 : e0.Tame) (ht8 : e8.Tame) (ht9 : e9.Tame) (ht11 : e11.Tame) (ht32 : e32.Tame) (ht33 : e33.Tame) (ht34 : e34.Tame), evK gS fi69 c69_38 { ps := [(0, e0), (2, .own 0 []), (3, .own kr (encPredss row)), (5, .val (.slice (encPreds f))), (6, .val (.bool fb)), (8, e8), (9, e9), (11, e11), (12, .val (.slice (encPredss l))), (13, .val (.int .i64 l.length)), (14, .val (.int .i64 (io : Nat))), (18, .val (.slice (encPredss row))), (19, .val (.int .i64 row.length)), (20, .val (.int .i64 (row.length : Nat))), (32, e32), (33, e33), (34, e34)], ts := T, lc := X } st (.blk 1 (.seq c69_68 (.loop c69_9 (.blk 0 (.seq c69_69 .nil))))) = some R) :
    ∀ (n k : Nat) (b : Bool) (e18 : E) (hc18 : e18.calm = .val (.slice (encPredss row))) (e0 e8 e9 e11 e32 e33 e34 : E) (T : List (Nat × E)) (X : List (Nat × List V)) (ht0 : e0.Tame) (ht8 : e8.Tame) (ht9 : e9.Tame) (ht11 : e11.Tame) (ht32 : e32.Tame) (ht33 : e33.Tame) (ht34 : e34.Tame), k ≤ row.length → row.length - k = n → fb = (b || (row.drop k).any fun g => fcovers g f) →
    evK gS fi69 c69_25 { ps := [(0, e0), (2, .own 0 []), (3, .own kr (encPredss row)), (5, .val (.slice (encPreds f))), (6, .val (.bool b)), (8, e8), (9, e9), (11, e11), (12, .val (.slice (encPredss l))), (13, .val (.int .i64 l.length)), (14, .val (.int .i64 (io : Nat))), (18, e18), (19, .val (.int .i64 row.length)), (20, .val (.int .i64 (k : Nat))), (32, e32), (33, e33), (34, e34)], ts := T, lc := X } st (.blk 2 (.seq c69_38 (.blk 1 (.seq c69_68 (.loop c69_9 (.blk 0 (.seq c69_69 .nil))))))) = some R := by
  intro n
  have hm : fi69.marks = [1000000] := rfl
  have hl : fi69.locals = [] := rfl
  have hr : fi69.results = [.tmp 2] := rfl
  have hil : io < l.length := (List.getElem?_eq_some_iff.1 hio).1
  have hie : l[io]'hil = f := (List.getElem?_eq_some_iff.1 hio).2
  have hfs := h_l f (List.mem_of_getElem? hio)
  have hfo := hfs.ok
  induction n with
  | zero =>
    intro k b e18 hc18 e0 e8 e9 e11 e32 e33 e34 T X ht0 ht8 ht9 ht11 ht32 ht33 ht34 hk hn hb
    obtain rfl : k = row.length := by omega
    refine evK_loop c69_26 _ st _ _ rfl ?_
    rw [List.drop_length] at hb
    have hb2 : b = fb := by rw [hb]; simp
    subst hb2
    simp (config := { contextual := true, maxSteps := 10000000, maxDischargeDepth := 6 }) [ht0, ht8, ht9, ht11, ht32, ht33, ht34, hc18, -Int.not_le, -Int.not_lt, -Nat.not_le, -Nat.not_lt, ty3, ty4, ty29, ty77, hm, hl, hr, k95, k50, E69, e69_67, n69_25, n69_50, n69_8]
    all_goals (refine H _ _ _ _ _ _ _ _ _ ?_ ?_ ?_ ?_ ?_ ?_ ?_ <;> simp (config := { contextual := true, maxSteps := 10000000, maxDischargeDepth := 6 }) [ht0, ht8, ht9, ht11, ht32, ht33, ht34, hc18, ])
  | succ n ih =>
    intro k b e18 hc18 e0 e8 e9 e11 e32 e33 e34 T X ht0 ht8 ht9 ht11 ht32 ht33 ht34 hk hn hb
    obtain ⟨x, hx⟩ : ∃ x, row[k]? = some x := ⟨row[k]'(by omega), List.getElem?_eq_getElem (by omega)⟩
    have hd := drop_get hx
    have hlt : (k : Int) < (row.length : Int) := by omega
    have hlt2 : k < row.length := by omega
    have hxe : row[k]'hlt2 = x := by rw [List.getElem?_eq_getElem hlt2] at hx; exact Option.some.inj hx
    have hw : IntKind.wrap .i64 ((k : Int) + 1) = ((k + 1 : Nat) : Int) := by rw [wrap64 (by omega) (by omega)]; omega
    have hxo := (h_r x (List.mem_of_getElem? hx)).ok
    rw [hd, List.any_cons] at hb
    have IH := fun b' hb' e0 e8 e9 e11 e32 e33 e34 T X ht0 ht8 ht9 ht11 ht32 ht33 ht34 => ih (k + 1) b' (.val (.slice (encPredss row))) rfl e0 e8 e9 e11 e32 e33 e34 T X ht0 ht8 ht9 ht11 ht32 ht33 ht34 (by omega) (by omega) hb'
    refine evK_loop c69_26 _ st _ _ rfl ?_
    cases b with
    | true =>
      have IHc := IH true (by rw [hb]; rfl)
      simp (config := { contextual := true, maxSteps := 10000000, maxDischargeDepth := 6 }) [-Int.natCast_add, hio, hil, hie, hx, hxe, hlt, hlt2, hw, IHc, ht0, ht8, ht9, ht11, ht32, ht33, ht34, hc18, -Int.not_le, -Int.not_lt, -Nat.not_le, -Nat.not_lt, ty3, ty4, ty29, ty77, hm, hl, hr, k95, k50, E69, e69_67, n69_25, n69_50, n69_8]
    | false =>
      have IHc := IH (fcovers x f) (by rw [hb]; rfl)
      simp (config := { contextual := true, maxSteps := 10000000, maxDischargeDepth := 6 }) [-Int.natCast_add, hio, hil, hie, hx, hxe, hlt, hlt2, hw, hxo, hfo, IHc, ht0, ht8, ht9, ht11, ht32, ht33, ht34, hc18, -Int.not_le, -Int.not_lt, -Nat.not_le, -Nat.not_lt, ty3, ty4, ty29, ty77, hm, hl, hr, k95, k50, E69, e69_67, n69_25, n69_50, n69_8]
set_option maxHeartbeats 8000000 in
theorem B69 (l : List (List Pred)) (h_l : ∀ f ∈ l, PSm f) (h_n : l.length ≤ 1000000) (io : Nat) (f : List Pred) (hio : l[io]? = some f) (row : List (List Pred)) (h_r : ∀ g ∈ row, PSm g) (h_m : row.length ≤ 1000000) (kr : Nat) (st : St) (R : Out × St) (fl : List (List Pred))
    (H : ∀ (kl : Nat) (e0 e6 e8 e11 e18 e19 e20 : E) (T : List (Nat × E)) (X : List (Nat × List V)) (ht0 : e0.Tame) (ht6 : e6.Tame) (ht8 : e8.Tame) (ht11 : e11.Tame) (ht18 : e18.Tame) (ht19 : e19.Tame) (ht20 : e20.Tame), (kl = 0 ∧ fl = [] ∨ kl = 1) → evK gS fi69 c69_67 { ps := [(0, e0), (2, .own 0 []), (3, .own kr (encPredss row)), (5, .val (.slice (encPreds f))), (6, e6), (8, e8), (9, .own kl (encPredss fl)), (11, e11), (12, .val (.slice (encPredss l))), (13, .val (.int .i64 l.length)), (14, .val (.int .i64 (io : Nat))), (18, e18), (19, e19), (20, e20), (32, .val (.slice (encPredss row))), (33, .val (.int .i64 row.length)), (34, .val (.int .i64 (row.length : Nat)))], ts := T, lc := X } st (.blk 1 (.seq c69_68 (.loop c69_9 (.blk 0 (.seq c69_69 .nil))))) = some R) :
    ∀ (n k : Nat) (kl : Nat) (left : List (List Pred)) (e32 : E) (hc32 : e32.calm = .val (.slice (encPredss row))) (e0 e6 e8 e11 e18 e19 e20 : E) (T : List (Nat × E)) (X : List (Nat × List V)) (ht0 : e0.Tame) (ht6 : e6.Tame) (ht8 : e8.Tame) (ht11 : e11.Tame) (ht18 : e18.Tame) (ht19 : e19.Tame) (ht20 : e20.Tame), k ≤ row.length → row.length - k = n → left.length ≤ k → (kl = 0 ∧ left = [] ∨ kl = 1) → fl = left ++ (row.drop k).filter (fun g => !fcovers f g) →
    evK gS fi69 c69_50 { ps := [(0, e0), (2, .own 0 []), (3, .own kr (encPredss row)), (5, .val (.slice (encPreds f))), (6, e6), (8, e8), (9, .own kl (encPredss left)), (11, e11), (12, .val (.slice (encPredss l))), (13, .val (.int .i64 l.length)), (14, .val (.int .i64 (io : Nat))), (18, e18), (19, e19), (20, e20), (32, e32), (33, .val (.int .i64 row.length)), (34, .val (.int .i64 (k : Nat)))], ts := T, lc := X } st (.blk 4 (.seq c69_67 (.blk 1 (.seq c69_68 (.loop c69_9 (.blk 0 (.seq c69_69 .nil))))))) = some R := by
  intro n
  have hm : fi69.marks = [1000000] := rfl
  have hl : fi69.locals = [] := rfl
  have hr : fi69.results = [.tmp 2] := rfl
  have hil : io < l.length := (List.getElem?_eq_some_iff.1 hio).1
  have hie : l[io]'hil = f := (List.getElem?_eq_some_iff.1 hio).2
  have hfs := h_l f (List.mem_of_getElem? hio)
  have hfo := hfs.ok
  induction n with
  | zero =>
    intro k kl left e32 hc32 e0 e6 e8 e11 e18 e19 e20 T X ht0 ht6 ht8 ht11 ht18 ht19 ht20 hk hn hll hkl hb
    obtain rfl : k = row.length := by omega
    refine evK_loop c69_51 _ st _ _ rfl ?_
    rw [List.drop_length, List.filter_nil, List.append_nil] at hb
    subst hb
    simp (config := { contextual := true, maxSteps := 10000000, maxDischargeDepth := 6 }) [ht0, ht6, ht8, ht11, ht18, ht19, ht20, hc32, -Int.not_le, -Int.not_lt, -Nat.not_le, -Nat.not_lt, ty3, ty4, ty29, ty77, hm, hl, hr, k95, k50, E69, e69_38, n69_25, n69_50, n69_8]
    all_goals (refine H kl _ _ _ _ _ _ _ _ _ ?_ ?_ ?_ ?_ ?_ ?_ ?_ ?_ <;> first | exact hkl | simp (config := { contextual := true, maxSteps := 10000000, maxDischargeDepth := 6 }) [ht0, ht6, ht8, ht11, ht18, ht19, ht20, hc32, ])
  | succ n ih =>
    intro k kl left e32 hc32 e0 e6 e8 e11 e18 e19 e20 T X ht0 ht6 ht8 ht11 ht18 ht19 ht20 hk hn hll hkl hb
    obtain ⟨x, hx⟩ : ∃ x, row[k]? = some x := ⟨row[k]'(by omega), List.getElem?_eq_getElem (by omega)⟩
    have hd := drop_get hx
    have hlt : (k : Int) < (row.length : Int) := by omega
    have hlt2 : k < row.length := by omega
    have hxe : row[k]'hlt2 = x := by rw [List.getElem?_eq_getElem hlt2] at hx; exact Option.some.inj hx
    have hw : IntKind.wrap .i64 ((k : Int) + 1) = ((k + 1 : Nat) : Int) := by rw [wrap64 (by omega) (by omega)]; omega
    have hxo := (h_r x (List.mem_of_getElem? hx)).ok
    rw [hd, List.filter_cons] at hb
    have IH := fun kl left h1 h2 h3 e0 e6 e8 e11 e18 e19 e20 T X ht0 ht6 ht8 ht11 ht18 ht19 ht20 => ih (k + 1) kl left (.val (.slice (encPredss row))) rfl e0 e6 e8 e11 e18 e19 e20 T X ht0 ht6 ht8 ht11 ht18 ht19 ht20 (by omega) (by omega) h1 h2 h3
    refine evK_loop c69_51 _ st _ _ rfl ?_
    cases hcv : fcovers f x with
    | true =>
      have IHc := IH kl left (by omega) hkl (by rw [hb, hcv]; rfl)
      simp (config := { contextual := true, maxSteps := 10000000, maxDischargeDepth := 6 }) [-Int.natCast_add, hio, hil, hie, hx, hxe, hlt, hlt2, hw, hxo, hfo, hcv, IHc, ht0, ht6, ht8, ht11, ht18, ht19, ht20, hc32, -Int.not_le, -Int.not_lt, -Nat.not_le, -Nat.not_lt, ty3, ty4, ty29, ty77, hm, hl, hr, k95, k50, E69, e69_38, n69_25, n69_50, n69_8]
    | false =>
      have IHc := IH 1 (left ++ [x]) (by simp; omega) (.inr rfl) (by rw [hb, hcv]; simp)
      have hs1 := sizes_predss left
      have hs2 := predss_snoc left x
      have hl1 : (left.length + 1) * 24 ≤ 140737488355328 := by omega
      have hl2 : left.length + 1 ≤ 140737488355328 := by omega
      rcases hkl with ⟨rfl, rfl⟩ | rfl
      · rw [show encPredss ([] ++ [x]) = [.slice (encPreds x)] from rfl] at IHc
        have en : encPredss [] = [] := rfl
        simp [-Int.natCast_add, en, hio, hil, hie, hx, hxe, hlt, hlt2, hw, hxo, hfo, hcv, ht0, ht6, ht8, ht11, ht18, ht19, ht20, hc32, -Int.not_le, -Int.not_lt, -Nat.not_le, -Nat.not_lt, ty3, ty4, ty29, ty77, hm, hl, hr, k95, k50, E69, e69_38, n69_25, n69_50, n69_8]
        all_goals (refine IHc _ _ _ _ _ _ _ _ _ ?_ ?_ ?_ ?_ ?_ ?_ ?_ <;> simp [ht0, ht6, ht8, ht11, ht18, ht19, ht20, hc32, ])
      · simp [-List.append_assoc, -Int.natCast_add, hio, hil, hie, hx, hxe, hlt, hlt2, hw, hxo, hfo, hcv, IHc, hs1, hs2, hl1, hl2, ht0, ht6, ht8, ht11, ht18, ht19, ht20, hc32, -Int.not_le, -Int.not_lt, -Nat.not_le, -Nat.not_lt, ty3, ty4, ty29, ty77, hm, hl, hr, k95, k50, E69, e69_38, n69_25, n69_50, n69_8]
/-- What is left of filters, one behind the other. -/
def fredStep (row : List (List Pred)) (f : List Pred) : List (List Pred) := if row.any (fun g => fcovers g f) then row else row.filter (fun g => !fcovers f g) ++ [f]
def freduce (l : List (List Pred)) : List (List Pred) := l.foldl fredStep []
theorem fredStep_mem {row : List (List Pred)} {f g : List Pred} (h : g ∈ fredStep row f) : g ∈ row ∨ g = f := by
  unfold fredStep at h
  split at h
  · exact .inl h
  · rcases List.mem_append.1 h with h | h
    · exact .inl (List.mem_filter.1 h).1
    · exact .inr (by simpa using h)
theorem fredStep_len (row : List (List Pred)) (f : List Pred) : (fredStep row f).length ≤ row.length + 1 := by
  unfold fredStep
  split
  · omega
  · have := List.length_filter_le (fun g => !fcovers f g) row
    simp; omega
set_option maxHeartbeats 8000000 in
theorem O69 (l : List (List Pred)) (h_l : ∀ f ∈ l, PSm f) (h_n : l.length ≤ 1000000) (st : St) :
    ∀ (n io : Nat) (row : List (List Pred)) (kr : Nat) (e0 e5 e6 e8 e9 e11 e18 e19 e20 e32 e33 e34 : E) (T : List (Nat × E)) (X : List (Nat × List V)) (ht0 : e0.Tame) (ht5 : e5.Tame) (ht6 : e6.Tame) (ht8 : e8.Tame) (ht9 : e9.Tame) (ht11 : e11.Tame) (ht18 : e18.Tame) (ht19 : e19.Tame) (ht20 : e20.Tame) (ht32 : e32.Tame) (ht33 : e33.Tame) (ht34 : e34.Tame), (∀ g ∈ row, PSm g) → row.length ≤ io → io ≤ l.length → l.length - io = n → (kr = 0 ∧ row = [] ∨ kr = 1) →
    evK gS fi69 c69_8 { ps := [(0, e0), (2, .own 0 []), (3, .own kr (encPredss row)), (5, e5), (6, e6), (8, e8), (9, e9), (11, e11), (12, .val (.slice (encPredss l))), (13, .val (.int .i64 l.length)), (14, .val (.int .i64 (io : Nat))), (18, e18), (19, e19), (20, e20), (32, e32), (33, e33), (34, e34)], ts := T, lc := X } st (.blk 0 (.seq c69_69 .nil)) = some (.ret (.slice (encPredss ((l.drop io).foldl fredStep row))) none, st) := by
  intro n
  have hm : fi69.marks = [1000000] := rfl
  have hl : fi69.locals = [] := rfl
  have hr : fi69.results = [.tmp 2] := rfl
  induction n with
  | zero =>
    intro io row kr e0 e5 e6 e8 e9 e11 e18 e19 e20 e32 e33 e34 T X ht0 ht5 ht6 ht8 ht9 ht11 ht18 ht19 ht20 ht32 ht33 ht34 h_r hri hio hn hkr
    obtain rfl : io = l.length := by omega
    rw [List.drop_length]
    have hz : ∀ st, frz 6 st (.slice (encPredss row)) = some (.slice (encPredss row), st) := fun st => frz_flat 6 st _ (by simp [V.flat])
    show _ = some (Out.ret (V.slice (encPredss row)) none, st)
    refine evK_loop c69_9 _ _ _ _ rfl ?_
    rcases hkr with ⟨rfl, rfl⟩ | rfl
    · have en : encPredss [] = [] := rfl
      rw [en] at hz ⊢
      simp [hz, ht0, ht5, ht6, ht8, ht9, ht11, ht18, ht19, ht20, ht32, ht33, ht34, -Int.not_le, -Int.not_lt, -Nat.not_le, -Nat.not_lt, ty3, ty4, ty29, ty77, hm, hl, hr, k95, k50, E69, e69_38, n69_25, n69_50, n69_8]
    · simp [hz, ht0, ht5, ht6, ht8, ht9, ht11, ht18, ht19, ht20, ht32, ht33, ht34, -Int.not_le, -Int.not_lt, -Nat.not_le, -Nat.not_lt, ty3, ty4, ty29, ty77, hm, hl, hr, k95, k50, E69, e69_38, n69_25, n69_50, n69_8]
  | succ n ih =>
    intro io row kr e0 e5 e6 e8 e9 e11 e18 e19 e20 e32 e33 e34 T X ht0 ht5 ht6 ht8 ht9 ht11 ht18 ht19 ht20 ht32 ht33 ht34 h_r hri hio hn hkr
    obtain ⟨f, hf⟩ : ∃ f, l[io]? = some f := ⟨l[io]'(by omega), List.getElem?_eq_getElem (by omega)⟩
    have hd := drop_get hf
    have hlt : (io : Int) < (l.length : Int) := by omega
    have hlt2 : io < l.length := by omega
    have hfe : l[io]'hlt2 = f := by rw [List.getElem?_eq_getElem hlt2] at hf; exact Option.some.inj hf
    have hw : IntKind.wrap .i64 ((io : Int) + 1) = ((io + 1 : Nat) : Int) := by rw [wrap64 (by omega) (by omega)]; omega
    have hfs := h_l f (List.mem_of_getElem? hf)
    have hfo := hfs.ok
    rw [hd, List.foldl_cons]
    have hmr : ∀ g ∈ fredStep row f, PSm g := fun g hg => by
      rcases fredStep_mem hg with h | rfl
      · exact h_r g h
      · exact hfs
    have hln := fredStep_len row f
    have IH := fun kr hkr e0 e5 e6 e8 e9 e11 e18 e19 e20 e32 e33 e34 T X ht0 ht5 ht6 ht8 ht9 ht11 ht18 ht19 ht20 ht32 ht33 ht34 => ih (io + 1) (fredStep row f) kr e0 e5 e6 e8 e9 e11 e18 e19 e20 e32 e33 e34 T X ht0 ht5 ht6 ht8 ht9 ht11 ht18 ht19 ht20 ht32 ht33 ht34 hmr (by omega) (by omega) (by omega) hkr
    generalize hR : (Out.ret (V.slice (encPredss ((l.drop (io + 1)).foldl fredStep (fredStep row f)))) none, st) = R at IH ⊢
    have AA := fun H => A69 l h_l h_n io f hf row h_r (by omega) kr st R (row.any fun g => fcovers g f) H row.length 0 false 
    have BB := fun H => B69 l h_l h_n io f hf row h_r (by omega) kr st R (row.filter fun g => !fcovers f g) H row.length 0 0 [] 
    clear ih
    clear hR
    refine evK_loop c69_9 _ _ _ _ rfl ?_
    simp [-Int.natCast_add, hf, hfe, hlt, hlt2, hw, ht0, ht5, ht6, ht8, ht9, ht11, ht18, ht19, ht20, ht32, ht33, ht34, -Int.not_le, -Int.not_lt, -Nat.not_le, -Nat.not_lt, ty3, ty4, ty29, ty77, hm, hl, hr, k95, k50, E69, e69_38, n69_25, n69_50, n69_8]
    refine AA ?_ _ rfl _ _ _ _ _ _ _ _ _ ?_ ?_ ?_ ?_ ?_ ?_ ?_ (Nat.zero_le _) rfl (by simp)
    · clear AA
      intro e0 e8 e9 e11 e32 e33 e34 T X ht0 ht8 ht9 ht11 ht32 ht33 ht34
      cases hc : row.any fun g => fcovers g f with
      | true =>
        have he : fredStep row f = row := by unfold fredStep; rw [if_pos hc]
        rw [he] at IH
        have IHr := IH kr hkr
        simp [-Int.natCast_add, hf, hfe, hlt, hlt2, hw, ht0, ht8, ht9, ht11, ht32, ht33, ht34, -Int.not_le, -Int.not_lt, -Nat.not_le, -Nat.not_lt, ty3, ty4, ty29, ty77, hm, hl, hr, k95, k50, E69, e69_38, n69_25, n69_50, n69_8]
        refine IHr _ _ _ _ _ _ _ _ _ _ _ _ _ _ ?_ ?_ ?_ ?_ ?_ ?_ ?_ ?_ ?_ ?_ ?_ ?_
        all_goals simp [ht0, ht8, ht9, ht11, ht32, ht33, ht34, ]
      | false =>
        have he : fredStep row f = row.filter (fun g => !fcovers f g) ++ [f] := by unfold fredStep; rw [if_neg (by rw [hc]; simp)]
        rw [he] at IH
        simp [-Int.natCast_add, hf, hfe, hlt, hlt2, hw, ht0, ht8, ht9, ht11, ht32, ht33, ht34, -Int.not_le, -Int.not_lt, -Nat.not_le, -Nat.not_lt, ty3, ty4, ty29, ty77, hm, hl, hr, k95, k50, E69, e69_38, n69_25, n69_50, n69_8]
        refine BB ?_ _ rfl _ _ _ _ _ _ _ _ _ ?_ ?_ ?_ ?_ ?_ ?_ ?_ (Nat.zero_le _) rfl (Nat.le_refl _) (.inl ⟨rfl, rfl⟩) (by simp)
        · intro kl e0 e6 e8 e11 e18 e19 e20 T X ht0 ht6 ht8 ht11 ht18 ht19 ht20 hkl
          generalize hfl : row.filter (fun g => !fcovers f g) = fl at *
          have hfll : fl.length ≤ 1000000 := by
            have := List.length_filter_le (fun g => !fcovers f g) row
            rw [hfl] at this; omega
          have hs1 := sizes_predss fl
          have hs2 := predss_snoc fl f
          have hl1 : (fl.length + 1) * 24 ≤ 140737488355328 := by omega
          have hl2 : fl.length + 1 ≤ 140737488355328 := by omega
          have IHr := IH 1 (.inr rfl)
          rcases hkl with ⟨rfl, rfl⟩ | rfl
          · rw [show encPredss ([] ++ [f]) = [.slice (encPreds f)] from rfl] at IHr
            have en : encPredss [] = [] := rfl
            simp [-Int.natCast_add, en, hf, hfe, hlt, hlt2, hw, hfs, hfo, ht0, ht6, ht8, ht11, ht18, ht19, ht20, -Int.not_le, -Int.not_lt, -Nat.not_le, -Nat.not_lt, ty3, ty4, ty29, ty77, hm, hl, hr, k95, k50, E69, e69_67, e69_38, n69_25, n69_50, n69_8]
            refine IHr _ _ _ _ _ _ _ _ _ _ _ _ _ _ ?_ ?_ ?_ ?_ ?_ ?_ ?_ ?_ ?_ ?_ ?_ ?_
            all_goals simp [ht0, ht6, ht8, ht11, ht18, ht19, ht20, ]
          · simp [-List.append_assoc, -Int.natCast_add, hf, hfe, hlt, hlt2, hw, hfs, hfo, hs1, hs2, hl1, hl2, ht0, ht6, ht8, ht11, ht18, ht19, ht20, -Int.not_le, -Int.not_lt, -Nat.not_le, -Nat.not_lt, ty3, ty4, ty29, ty77, hm, hl, hr, k95, k50, E69, e69_67, e69_38, n69_25, n69_50, n69_8]
            refine IHr _ _ _ _ _ _ _ _ _ _ _ _ _ _ ?_ ?_ ?_ ?_ ?_ ?_ ?_ ?_ ?_ ?_ ?_ ?_
            all_goals simp [ht0, ht6, ht8, ht11, ht18, ht19, ht20, ]
        all_goals simp [ht0, ht8, ht9, ht11, ht32, ht33, ht34, ]
    all_goals simp [ht0, ht5, ht6, ht8, ht9, ht11, ht18, ht19, ht20, ht32, ht33, ht34, ]
set_option maxHeartbeats 8000000 in
theorem c69 (l : List (List Pred)) (h_l : ∀ f ∈ l, PSm f) (h_n : l.length ≤ 1000000) (st : St) : EvF gS 69 [.slice (encPredss l)] st = some (.ret (.slice (encPredss (freduce l))) none, st) := by
  refine EvF_start fi49_eq (fun x h => by cases h) m69 ?_
  rw [st69]
  have hm : fi69.marks = [1000000] := rfl
  have hl : fi69.locals = [] := rfl
  have hr : fi69.results = [.tmp 2] := rfl
  have L0 := fun e0 e5 e6 e8 e9 e11 e18 e19 e20 e32 e33 e34 T X ht0 ht5 ht6 ht8 ht9 ht11 ht18 ht19 ht20 ht32 ht33 ht34 => O69 l h_l h_n st l.length 0 [] 0 e0 e5 e6 e8 e9 e11 e18 e19 e20 e32 e33 e34 T X ht0 ht5 ht6 ht8 ht9 ht11 ht18 ht19 ht20 ht32 ht33 ht34 (by simp) (Nat.zero_le _) (Nat.zero_le _) rfl (.inl ⟨rfl, rfl⟩)
  simp only [show ((0 : Nat) : Int) = 0 from rfl, List.drop_zero, show encPredss [] = [] from rfl] at L0
  show _ = some (Out.ret (V.slice (encPredss (l.foldl fredStep []))) none, st)
  simp [L0, -Int.not_le, -Int.not_lt, -Nat.not_le, -Nat.not_lt, ty3, ty4, ty29, ty77, hm, hl, hr, k95, k50, E69, e69_67, e69_38, n69_25, n69_50, n69_8]
theorem k69 (l : List (List Pred)) (h_l : ∀ f ∈ l, PSm f) (h_n : l.length ≤ 1000000) (fr : Fr) (st : St) : callStep gS (EvF gS) 69 [.slice (encPredss l)] fr st = some (.ok (.val (.slice (encPredss (freduce l)))) fr st) :=
  call_pure rfl fi49_eq rfl (fun st => c69 l h_l h_n st) (by simp [V.flat])
end
end Go.Proofs.Ytdoobejjedpcgaa
namespace Go.Ab
open Go
set_option linter.unusedVariables false
set_option linter.unusedSimpArgs false
set_option linter.unnecessarySimpa false
theorem new_feed (st : St) (l : List Int) : ({ objs := st.objs ++ [[V.slice (intVs l), V.int .i64 0]], wp := st.wp } : St) = setF (nw st 0 []) st.objs.length l (nA l 0 0) := by
  unfold setF nw nA
  simp
theorem feedOk_new {st : St} (h : st.wp ≤ st.objs.length) : FeedOk (nw st 0 []) st.objs.length := ⟨by rw [gr_len]; omega, h⟩
def shr (g : List Grp) (a b : Nat) : Bool := !decide (bothI ((g[b]?).getD default).clients ((g[a]?).getD default).clients [] = [])
end Go.Ab
namespace Go.Ab
open Go
set_option linter.unusedVariables false
set_option linter.unusedSimpArgs false
set_option linter.unnecessarySimpa false
def rsSt : Option Sub → Int → List Sub → Option Sub × Int
  | o, m, [] => (o, m)
  | none, m, s :: r => rsSt (some s) 1 r
  | some t, m, s :: r => if t.client < s.client then rsSt (some s) 1 r else rsSt (some s) (m + 1) r
theorem rsG_append : ∀ (xs : List Sub) (o : Option Sub) (m : Int) (s : Sub), rsG o m (xs ++ [s]) = (rsG o m xs && rsG (rsSt o m xs).1 (rsSt o m xs).2 [s])
  | [], o, m, s => by simp [rsSt, rsG]
  | x :: r, none, m, s => by
    rw [List.cons_append]
    simp only [rsG, rsSt]
    rw [rsG_append r (some x) 1 s, Bool.and_assoc]
  | x :: r, some t, m, s => by
    rw [List.cons_append]
    simp only [rsG, rsSt]
    by_cases h : t.client < x.client
    · simp only [h, if_true]
      rw [rsG_append r (some x) 1 s, Bool.and_assoc]
    · simp only [h, if_false]
      rw [rsG_append r (some x) (m + 1) s, Bool.and_assoc, Bool.and_assoc]
theorem rsSt_append : ∀ (xs : List Sub) (o : Option Sub) (m : Int) (s : Sub), (rsSt o m (xs ++ [s])).1 = some s ∧ (rsSt o m (xs ++ [s])).2 = match (rsSt o m xs).1 with
    | none => 1
    | some t => if t.client < s.client then 1 else (rsSt o m xs).2 + 1
  | [], none, m, s => by simp [rsSt]
  | [], some t, m, s => by
    simp only [List.nil_append, rsSt]
    split <;> simp [rsSt]
  | x :: r, none, m, s => by
    rw [List.cons_append]
    simp only [rsSt]
    exact rsSt_append r (some x) 1 s
  | x :: r, some t, m, s => by
    rw [List.cons_append]
    simp only [rsSt]
    by_cases h : t.client < x.client
    · simp only [h, if_true]; exact rsSt_append r (some x) 1 s
    · simp only [h, if_false]; exact rsSt_append r (some x) (m + 1) s
/-- Subscriptions so far: the last one's client stands ahead of c, or it is c's, with its k-th number. -/
structure SoFar (P : Nat) (c home num : Int) (k : Nat) (out : List Sub) : Prop where
  right : rightS out = true
  bro : ∀ s ∈ out, s.broker ≤ P
  last : ∀ t, (rsSt none 0 out).1 = some t → t.client < c ∨ (t.client = c ∧ t.broker = home ∧ t.num ≤ num ∧ (rsSt none 0 out).2 ≤ k)
theorem may_of {c home num : Int} {f : List Pred} (h1 : 1 ≤ c) (h2 : c ≤ 6) (h3 : 0 ≤ home) (h4 : home ≤ 7) (h5 : 1 ≤ num) (h6 : num ≤ 100) (hf : fright f = true) : mayS ⟨c, home, num, f⟩ = true := by
  simp only [mayS, Bool.and_eq_true, decide_eq_true_eq]
  exact ⟨⟨⟨⟨⟨⟨h1, h2⟩, h3⟩, h4⟩, h5⟩, by omega⟩, hf⟩
theorem SoFar.snoc {P : Nat} {c home num num' : Int} {k : Nat} {out : List Sub} {f : List Pred} (h : SoFar P c home num k out) (hP : P ≤ 7) (h1 : 1 ≤ c) (h2 : c ≤ 6) (h3 : 0 ≤ home) (h4 : home ≤ P) (h5 : num < num') (h5' : 1 ≤ num') (h6 : num' ≤ 100) (hk : k ≤ 2) (hf : fright f = true) :
    SoFar P c home num' (k + 1) (out ++ [⟨c, home, num', f⟩]) := by
  have hm := may_of (f := f) h1 h2 h3 (show home ≤ 7 by omega) h5' h6 hf
  have ha := rsG_append out none 0 ⟨c, home, num', f⟩
  have hs := rsSt_append out none 0 ⟨c, home, num', f⟩
  have hl := h.last
  have hr := h.right
  unfold rightS at hr
  refine ⟨?_, fun s hs => ?_, fun t ht => ?_⟩
  · unfold rightS
    rw [ha, hr, Bool.true_and]
    cases ho : (rsSt none 0 out).1 with
    | none => simp [rsG, hm]
    | some t =>
      simp only [rsG, hm, Bool.true_and, Bool.and_true]
      rcases hl t ho with h' | ⟨e1, e2, e3, e4⟩
      · simp [h']
      · have n1 : ¬ t.client < c := by omega
        have n2 : ¬ c < t.client := by omega
        have n3 : ¬ num' ≤ t.num := by omega
        have n4 : ¬ (3 : Int) < (rsSt none 0 out).2 + 1 := by omega
        simp [n1, n2, n3, n4, e2]
  · rcases List.mem_append.1 hs with hs | hs
    · exact h.bro s hs
    · simp at hs; subst hs; exact h4
  · rw [hs.1] at ht
    cases ht
    refine .inr ⟨rfl, rfl, Int.le_refl _, ?_⟩
    rw [hs.2]
    cases ho : (rsSt none 0 out).1 with
    | none => simp only; omega
    | some t =>
      simp only
      split
      · omega
      · rename_i hn
        rcases hl t ho with h' | ⟨e1, e2, e3, e4⟩
        · exact absurd h' hn
        · omega
theorem subsI_right (l : List Int) (a P : Nat) (fs : List (List Pred)) (c home : Int) (hP : P ≤ 7) (h1 : 1 ≤ c) (h2 : c ≤ 6) (h3 : 0 ≤ home) (h4 : home ≤ P) (hfs : ∀ f ∈ fs, fright f = true) : ∀ (n : Nat) (num : Int) (j d k : Nat) (out : List Sub), n + k ≤ 3 → 0 ≤ num → num ≤ 2 * k → SoFar P c home num k out →
    ∃ num' k', SoFar P c home num' k' (subsI l a fs c home n num j d out).1
  | 0, num, j, d, k, out, _, _, _, h => ⟨num, k, h⟩
  | n + 1, num, j, d, k, out, hn, hm, hm2, h => by
    simp only [subsI]
    have hb := fd_bound l a j (n := 2) (by omega)
    refine subsI_right l a P fs c home hP h1 h2 h3 h4 hfs n (num + 1 + fd l a j 2) _ _ (k + 1) _ (by omega) (by omega) (by omega) (h.snoc hP h1 h2 h3 h4 (by omega) (by omega) (by omega) (by omega) ?_)
    split
    · cases hg : fs[(fd l a (filterV l a (j + 1)).2.1 6).toNat]? with
      | none => rw [List.getD_eq_getElem?_getD, hg]; rfl
      | some f => rw [List.getD_eq_getElem?_getD, hg]; exact hfs f (List.mem_of_getElem? hg)
    · have := filterV_ffv l a (j + 1)
      exact ffv_right this.1 this.2
theorem SoFar.next {P : Nat} {c home num : Int} {k : Nat} {out : List Sub} (h : SoFar P c home num k out) (home' : Int) : SoFar P (c + 1) home' 0 0 out :=
  ⟨h.right, h.bro, fun t ht => .inl (by rcases h.last t ht with h | h <;> omega)⟩
theorem subsO_right (l : List Int) (a P : Nat) (fs : List (List Pred)) (hP : P ≤ 7) (hfs : ∀ f ∈ fs, fright f = true) : ∀ (r : Nat) (c : Int) (j d : Nat) (out : List Sub), 1 ≤ c → c + r ≤ 7 → (∀ home, SoFar P c home 0 0 out) → ∃ c' home num k, SoFar P c' home num k (subsO l a P fs r c j d out).1
  | 0, c, j, d, out, _, _, h => ⟨c, 0, 0, 0, h 0⟩
  | r + 1, c, j, d, out, h1, h2, h => by
    simp only [subsO]
    have hb := fd_bound l a j (n := (P : Int) + 1) (by omega)
    have hb4 := fd_bound l a (j + 1) (n := 4) (by omega)
    obtain ⟨num', k', h'⟩ := subsI_right l a P fs c (fd l a j (P + 1)) hP h1 (by omega) hb.1 (by omega) hfs (fd l a (j + 1) 4).toNat 0 (j + 2) d 0 out (by omega) (by omega) (by omega) (h _)
    exact subsO_right l a P fs hP hfs r _ _ _ _ (by omega) (by omega) fun home => h'.next home
/-- A feed's subscriptions are right. -/
theorem subsV_right (l : List Int) (a j P : Nat) (hP : P ≤ 7) : rightS (subsV l a j P).1 = true ∧ ∀ s ∈ (subsV l a j P).1, s.broker ≤ P := by
  unfold subsV
  have hfs : ∀ f ∈ subsF l a j, fright f = true := fun f hf => by
    unfold subsF at hf
    simp at hf
    rcases hf with rfl | rfl | rfl
    · have := filterV_ffv l a j; exact ffv_right this.1 this.2
    · have := filterV_ffv l a (filterV l a j).2.1; exact ffv_right this.1 this.2
    · rfl
  obtain ⟨c', home, num, k, h⟩ := subsO_right l a P (subsF l a j) hP hfs 6 1 (filterV l a (filterV l a j).2.1).2.1 ((filterV l a j).2.2 + (filterV l a (filterV l a j).2.1).2.2) [] (by omega) (by omega) fun home => ⟨rfl, by simp, fun t ht => by simp [rsSt] at ht⟩
  exact ⟨h.right, h.bro⟩
end Go.Ab
namespace Go.Ab
open Go
set_option linter.unusedVariables false
set_option linter.unusedSimpArgs false
set_option linter.unnecessarySimpa false
def kidG (b : Int) : Nat → List Int → List Int → List Int
  | _, [], out => out
  | i, x :: r, out => kidG b (i + 1) r (if x = b then out ++ [((i + 1 : Nat) : Int)] else out)
def kidsT (p : List Int) (b : Int) : List Int := if isT p b then kidG b 0 p [] else []
def nearT (p : List Int) (b : Int) : List Int := if isT p b then (if 0 < b then [p.getD (b.toNat - 1) 0] else []) ++ kidsT p b else []
def nextT (p : List Int) (a b : Int) : Int := if isT p a && isT p b && !decide (a = b) then (pathT p a.toNat b.toNat).getD 1 0 else -1
def sideG (p : List Int) (b n : Int) : Nat → Nat → List Int → List Int
  | 0, _, out => out
  | k + 1, x, out => sideG p b n k (x + 1) (if nextT p b x = n then out ++ [(x : Int)] else out)
def sideT (p : List Int) (b n : Int) : List Int := if 0 ≤ n then sideG p b n (p.length + 1) 0 [] else []
structure Tbl where
  near : Int
  fs : List (List Pred)
  deriving Inhabited
def Tbl.cells (t : Tbl) : List V := [.int .i64 t.near, .slice (encPredss t.fs)]
def Tbl.enc (t : Tbl) : V := .agg t.cells
def encTbls (l : List Tbl) : List V := l.map Tbl.enc
def wantT (side : List Int) (l : List Sub) : List (List Pred) := (l.filter fun s => hasI side s.broker).map Sub.filter
def wantG (side : List Int) : List Sub → List (List Pred) → List (List Pred)
  | [], out => out
  | s :: r, out => wantG side r (if hasI side s.broker then out ++ [s.filter] else out)
theorem wantG_eq (side : List Int) : ∀ (l : List Sub) (out : List (List Pred)), wantG side l out = out ++ wantT side l
  | [], out => by simp [wantG, wantT]
  | s :: r, out => by
    unfold wantG
    rw [wantG_eq side r]
    unfold wantT
    rw [List.filter_cons]
    split <;> simp
def tabOf (p : List Int) (l : List Sub) (b n : Int) : Tbl := ⟨n, freduce (wantG (sideT p b n) l [])⟩
def tablesT (p : List Int) (l : List Sub) (b : Int) : List Tbl := (nearT p b).map (tabOf p l b)
theorem upP_one {p : List Int} {a : Nat} (h : (upP p a).length = 1) : a = 0 := by
  cases a with
  | zero => rfl
  | succ a => simp [upP, upF] at h
theorem trimN_two (A B : List Int) (h0 : A[0]? ≠ B[0]?) : ∀ (k a b : Nat), ¬ (a = 1 ∧ b = 1) → 0 < a → 0 < b → ¬ ((trimN A B k a b).1 = 1 ∧ (trimN A B k a b).2 = 1)
  | 0, a, b, h, _, _ => h
  | k + 1, a, b, h, ha, hb => by
    unfold trimN
    split
    · rename_i hc
      refine trimN_two A B h0 k (a - 1) (b - 1) ?_ (by omega) (by omega)
      rintro ⟨h1, h2⟩
      have e1 : a - 2 = 0 := by omega
      have e2 : b - 2 = 0 := by omega
      rw [e1, e2] at hc
      exact h0 hc.2.2
    · exact h
theorem path_two {p : List Int} {a b : Nat} (h : a ≠ b) : 2 ≤ (pathT p a b).length := by
  have hA := upP_len p a
  have hB := upP_len p b
  have h0 : (upP p a)[0]? ≠ (upP p b)[0]? := by simp [upP]; omega
  have h1 : ¬ ((upP p a).length = 1 ∧ (upP p b).length = 1) := fun ⟨e1, e2⟩ => h (by rw [upP_one e1, upP_one e2])
  have h2 := trimN_two (upP p a) (upP p b) h0 100 _ _ h1 hA.1 hB.1
  have h3 := trimN_le (upP p a) (upP p b) 100 (upP p a).length (upP p b).length hA.1 hB.1
  unfold pathT joinT
  simp only [List.length_append, List.length_take, List.length_reverse]
  omega
theorem encTbls_length (l : List Tbl) : (encTbls l).length = l.length := by simp [encTbls]
theorem encTbls_get (l : List Tbl) (i : Nat) : (encTbls l)[i]? = (l[i]?).map Tbl.enc := by simp [encTbls]
theorem encTbls_gE (l : List Tbl) (i : Nat) (h : i < (encTbls l).length) : (encTbls l)[i]'h = (l[i]'(by rw [encTbls_length] at h; exact h)).enc := by simp [encTbls]
theorem flat_tbl (v : Tbl) : v.enc.flat = true := by simp [Tbl.enc, Tbl.cells, V.flat, flats]
theorem flats_tbls (l : List Tbl) : flats (encTbls l) = true := by
  induction l with
  | nil => rfl
  | cons x r ih => simp only [encTbls, List.map_cons, flats, flat_tbl] at ih ⊢; exact ih
attribute [simp] encTbls_length encTbls_get encTbls_gE flat_tbl flats_tbls Tbl.enc Tbl.cells
theorem sizes_tbls (l : List Tbl) : sizesOk 2 (encTbls l) = true := by
  induction l with
  | nil => rfl
  | cons x r ih => simp only [encTbls, List.map_cons, sizesOk] at ih ⊢; rw [ih]; rfl
theorem tbls_snoc (l : List Tbl) (t : Tbl) : encTbls l ++ [.agg [.int .i64 t.near, .slice (encPredss t.fs)]] = encTbls (l ++ [t]) := by simp [encTbls]
theorem kidG_len (b : Int) : ∀ (r : List Int) (i : Nat) (out : List Int), (kidG b i r out).length ≤ out.length + r.length
  | [], _, _ => Nat.le_refl _
  | x :: r, i, out => by
    have h1 := kidG_len b r (i + 1) (if x = b then out ++ [((i + 1 : Nat) : Int)] else out)
    have h2 : (if x = b then out ++ [((i + 1 : Nat) : Int)] else out).length ≤ out.length + 1 := by split <;> simp
    unfold kidG
    simp only [List.length_cons]; omega
theorem nearT_len (p : List Int) (b : Int) : (nearT p b).length ≤ 1 + p.length := by
  have h1 := kidG_len b p 0 []
  unfold nearT kidsT
  split
  · rw [List.length_append]
    simp only [List.length_nil, Nat.zero_add] at h1
    split <;> simp <;> omega
  · simp
theorem sideG_len (p : List Int) (b n : Int) : ∀ (k x : Nat) (out : List Int), (sideG p b n k x out).length ≤ out.length + k
  | 0, _, _ => Nat.le_refl _
  | k + 1, x, out => by
    have h1 := sideG_len p b n k (x + 1) (if nextT p b x = n then out ++ [(x : Int)] else out)
    have h2 : (if nextT p b x = n then out ++ [(x : Int)] else out).length ≤ out.length + 1 := by split <;> simp
    unfold sideG; omega
theorem sideT_len (p : List Int) (b n : Int) : (sideT p b n).length ≤ p.length + 1 := by
  have := sideG_len p b n (p.length + 1) 0 []
  unfold sideT
  split
  · simpa using this
  · simp
end Go.Ab
namespace Go.Proofs.Ytdoobejjedpcgaa
open Go Go.Ab
set_option linter.unusedVariables false
set_option linter.unusedSimpArgs false
set_option linter.unnecessarySimpa false
set_option maxRecDepth 20000
noncomputable section
variable (fr : Fr) (st : St) (k : Kt)
def fi73 : FI := { body := codeOf Try.f73, ntmps := 30, results := [.tmp 4], pers := [0, 1, 4, 5, 6, 7, 13, 14, 15], locals := [], pure := true, marks := [1000000] }
theorem fi207_eq : gS.fn 73 = some fi73 := by kernel_rfl
theorem st73 (a0 a1 : V) : startFr fi73 [a0, a1] = { ps := [(0, .val a0), (1, .val a1), (4, .any), (5, .any), (6, .any), (7, .any), (13, .any), (14, .any), (15, .any)], ts := [], lc := [] } := rfl
def b73 : Code := mini (codeOf Try.f73)
def c73_8 : Code := .seq (codeN b73 75) .ret
def c73_7 : Code := .cond (.tmp 11) c73_8 .skip
def c73_5 : Code := .seq (codeN b73 19) c73_7
def c73_30 : Code := codeN b73 22935
def c73_29 : Code := .cond (.tmp 22) c73_30 .skip
def c73_27 : Code := .seq (codeN b73 10647) c73_29
def c73_25 : Code := .seq (codeN b73 4503) c73_27
def c73_32 : Code := codeN b73 1943
def c73_23 : Code := .seq (.block 1 c73_25) c73_32
def c73_19 : Code := .seq (.cond (.tmp 16) .skip (.exit 0)) c73_23
def c73_17 : Code := .seq (codeN b73 279) c73_19
def c73_16 : Code := .loop c73_17
def c73_15 : Code := .block 0 c73_16
def c73_13 : Code := .seq (codeN b73 39) c73_15
def c73_33 : Code := .seq (codeN b73 47) .ret
theorem e73_33 : evK gS fi73 c73_33 fr st k = opsR gS fi73 [mv 29 5 22,
 asn 4 29 22] fr st (.seq .ret k) := evK_rs 10 rfl (by kernel_rfl)
def c73_12 : Code := .seq c73_13 c73_33
def c73_4 : Code := .seq c73_5 c73_12
def c73_2 : Code := .seq (codeN b73 5) c73_4
def c73_0 : Code := .seq (codeN b73 2) c73_2
theorem E73 : (evK gS fi73 c73_8 fr st k = opsR gS fi73 [mv 12 5 22,
 asn 4 12 22] fr st (.seq .ret k)) ∧
 evK gS fi73 c73_7 fr st k = condK gS fi73 (fr.op (.tmp 11)).bool? c73_8 .skip fr st k ∧
 (evK gS fi73 c73_5 fr st k = opsR gS fi73 [mv 8 0 22,
 mv 9 1 3,
 cal 10 72 [(.tmp 8), (.tmp 9)] [22, 3] 4,
 op1 11 (.unOp .not 4 (.tmp 10)) 4] fr st (.seq c73_7 k)) ∧
 (evK gS fi73 c73_30 fr st k = opsR gS fi73 [mv 23 5 22,
 mv 24 6 3,
 op1 25 (.binOp .add 3 (.tmp 24) (.const (.int .i64 1)) 3) 3,
 op1 26 (.buildSlice 22 1 #[(0, (.tmp 25))]) 22,
 op1 27 (.call { callee := (.builtin .append), args := #[(.tmp 23), (.tmp 26)], argTypes := #[22, 22] }) 22,
 asn 5 27 22] fr st k) ∧
 evK gS fi73 c73_29 fr st k = condK gS fi73 (fr.op (.tmp 22)).bool? c73_30 .skip fr st k ∧
 (evK gS fi73 c73_27 fr st k = opsR gS fi73 [mv 20 7 3,
 mv 21 1 3,
 bop 22 .eql 3 20 21 3 4] fr st (.seq c73_29 k)) ∧
 (evK gS fi73 c73_25 fr st k = opsR gS fi73 [mv 17 15 3,
 ixa 18 22 13 15 0,
 ld 19 3 18 3,
 asn 6 17 3,
 asn 7 19 3] fr st (.seq c73_27 k)) ∧
 (evK gS fi73 c73_32 fr st k = opsR gS fi73 [op1 28 (.binOp .add 3 (.tmp 15) (.const (.int .i64 1)) 3) 3,
 mv 15 28 3] fr st k) ∧
 evK gS fi73 c73_23 fr st k = evK gS fi73 c73_25 fr st (.blk 1 (.seq c73_32 k)) ∧
 evK gS fi73 c73_19 fr st k = condK gS fi73 (fr.op (.tmp 16)).bool? .skip (.exit 0) fr st (.seq c73_23 k) ∧
 evK gS fi73 c73_17 fr st k = opsR gS fi73 [bop 16 .lss 3 15 14 3 0] fr st (.seq c73_19 k) ∧
 evK gS fi73 c73_15 fr st k = evK gS fi73 c73_16 fr st (.blk 0 k) ∧
 (evK gS fi73 c73_13 fr st k = opsR gS fi73 [mv 13 0 22,
 len1 14 13 22 3,
 op1 15 (.move (.const (.int .i64 0))) 3] fr st (.seq c73_15 k)) ∧
 evK gS fi73 c73_12 fr st k = evK gS fi73 c73_13 fr st (.seq c73_33 k) ∧
 evK gS fi73 c73_4 fr st k = evK gS fi73 c73_5 fr st (.seq c73_12 k) ∧
 evK gS fi73 c73_2 fr st k = opsR gS fi73 [op1 5 (.assign (.const (.slice none 0 0))) 22] fr st (.seq c73_4 k) ∧
 evK gS fi73 c73_0 fr st k = opsR gS fi73 [op1 4 (.assign (.const (.slice none 0 0))) 22] fr st (.seq c73_2 k) := ⟨evK_rs 3 rfl (by kernel_rfl), rfl, evK_rs 2 rfl (by kernel_rfl), evK_r 8 (by kernel_rfl), rfl, evK_rs 7 rfl (by kernel_rfl), evK_rs 6 rfl (by kernel_rfl), evK_r 9 (by kernel_rfl), rfl, rfl, evK_rs 5 rfl (by kernel_rfl), rfl, evK_rs 4 rfl (by kernel_rfl), rfl, rfl, evK_rs 1 rfl (by kernel_rfl), evK_rs 0 rfl (by kernel_rfl)⟩
theorem m73 : mini fi73.body = c73_0 := by kernel_rfl
theorem n73_16 (fr : Fr) (st : St) (k : Kt) : nextK gS fi73 (.loop c73_17 k) .normal fr st = evK gS fi73 c73_16 fr st k := rfl
set_option maxHeartbeats 8000000 in
theorem LK7 (p : List Int) (hp7 : p.length < 1000) (b : Int) (S : St) (R : Out × St)  (fin : List Int)
    (H : ∀ (e6 e7 : E) (T : List (Nat × E)) (X : List (Nat × List V)), e6.Tame → e7.Tame → evK gS fi73 c73_33 { ps := [(0, .val (.slice (intVs p))), (1, .val (.int .i64 b)), (4, .own 0 []), (5, .own (kof 1 fin) (intVs fin)), (6, e6), (7, e7), (13, .val (.slice (intVs p))), (14, .val (.int .i64 p.length)), (15, .val (.int .i64 p.length))], ts := T, lc := X } S .nil = some R) :
    ∀ (m q : Nat) (out : List Int) (e6 e7 : E) (T : List (Nat × E)) (X : List (Nat × List V)) (h6 : e6.Tame) (h7 : e7.Tame), q ≤ p.length → p.length - q = m → fin = kidG b q (p.drop q) out → out.length ≤ q →
    evK gS fi73 c73_16 { ps := [(0, .val (.slice (intVs p))), (1, .val (.int .i64 b)), (4, .own 0 []), (5, .own (kof 1 out) (intVs out)), (6, e6), (7, e7), (13, .val (.slice (intVs p))), (14, .val (.int .i64 p.length)), (15, .val (.int .i64 (q : Nat)))], ts := T, lc := X } S (.blk 0 (.seq c73_33 .nil)) = some R := by
  intro m
  have hm : fi73.marks = [1000000] := rfl
  have hl : fi73.locals = [] := rfl
  have hr : fi73.results = [.tmp 4] := rfl
  induction m with
  | zero =>
    intro q out e6 e7 T X h6 h7 hq hm2 hf hol
    obtain rfl : q = p.length := by omega
    rw [List.drop_length] at hf
    have hf2 : fin = out := hf
    subst hf2
    refine evK_loop c73_17 _ _ _ _ rfl ?_
    rcases kof_or 1 fin with ⟨hk, rfl⟩ | hk
    · rw [hk, show intVs [] = [] from rfl] at H ⊢
      simp [-Int.natCast_add, -St.obj, -St.set, h6, h7, -Int.not_le, -Int.not_lt, -Nat.not_le, -Nat.not_lt, ty3, ty4, ty22, hm, hl, hr, E73, n73_16]
      exact H _ _ _ _ h6 h7
    · rw [hk] at H ⊢
      simp [-Int.natCast_add, -St.obj, -St.set, h6, h7, -Int.not_le, -Int.not_lt, -Nat.not_le, -Nat.not_lt, ty3, ty4, ty22, hm, hl, hr, E73, n73_16]
      exact H _ _ _ _ h6 h7
  | succ m ih =>
    intro q out e6 e7 T X h6 h7 hq hm2 hf hol
    obtain ⟨x, hx⟩ : ∃ x, p[q]? = some x := ⟨p[q]'(by omega), List.getElem?_eq_getElem (by omega)⟩
    have hlt : (q : Int) < (p.length : Int) := by omega
    obtain ⟨hlt2, hxe⟩ := List.getElem?_eq_some_iff.1 hx
    have hw : IntKind.wrap .i64 ((q : Int) + 1) = ((q + 1 : Nat) : Int) := by rw [wrap64 (by omega) (by omega)]; omega
    rw [drop_get hx] at hf
    rw [show kidG b q (x :: p.drop (q + 1)) out = kidG b (q + 1) (p.drop (q + 1)) (if x = b then out ++ [((q + 1 : Nat) : Int)] else out) from rfl] at hf
    have hs1 := sizes_ints out
    have hs2 := ints_snoc out ((q + 1 : Nat) : Int)
    have b1 : (out.length + 1) * 8 ≤ 140737488355328 := by omega
    have b2 : out.length + 1 ≤ 140737488355328 := by omega
    refine evK_loop c73_17 _ _ _ _ rfl ?_
    by_cases hb : x = b
    · rw [if_pos hb] at hf
      have IH := fun e6 e7 T X h6 h7 => ih (q + 1) (out ++ [((q + 1 : Nat) : Int)]) e6 e7 T X h6 h7 (by omega) (by omega) hf (by simp; omega)
      rw [kof_snoc] at IH
      rcases kof_or 1 out with ⟨hk, rfl⟩ | hk
      · have en1 : intVs ([] ++ [((q + 1 : Nat) : Int)]) = [.int .i64 ((q + 1 : Nat) : Int)] := rfl
        rw [en1] at IH
        rw [hk, show intVs [] = [] from rfl]
        simp [-Int.natCast_add, h6, h7, hx, hxe, hlt, hlt2, hw, hb, -Int.not_le, -Int.not_lt, -Nat.not_le, -Nat.not_lt, ty3, ty4, ty22, hm, hl, hr, E73, e73_33, n73_16]
        refine IH _ _ _ _ ?_ ?_
        all_goals simp
      · rw [hk]
        simp [-Int.natCast_add, -List.append_assoc, h6, h7, hx, hxe, hlt, hlt2, hw, hb, hs1, hs2, b1, b2, -Int.not_le, -Int.not_lt, -Nat.not_le, -Nat.not_lt, ty3, ty4, ty22, hm, hl, hr, E73, e73_33, n73_16]
        refine IH _ _ _ _ ?_ ?_
        all_goals simp
    · rw [if_neg hb] at hf
      have IH := fun e6 e7 T X h6 h7 => ih (q + 1) out e6 e7 T X h6 h7 (by omega) (by omega) hf (by omega)
      rcases kof_or 1 out with ⟨hk, rfl⟩ | hk
      · rw [hk, show intVs [] = [] from rfl] at IH ⊢
        simp [-Int.natCast_add, h6, h7, hx, hxe, hlt, hlt2, hw, hb, -Int.not_le, -Int.not_lt, -Nat.not_le, -Nat.not_lt, ty3, ty4, ty22, hm, hl, hr, E73, e73_33, n73_16]
        refine IH _ _ _ _ ?_ ?_
        all_goals simp
      · rw [hk] at IH ⊢
        simp [-Int.natCast_add, h6, h7, hx, hxe, hlt, hlt2, hw, hb, -Int.not_le, -Int.not_lt, -Nat.not_le, -Nat.not_lt, ty3, ty4, ty22, hm, hl, hr, E73, e73_33, n73_16]
        refine IH _ _ _ _ ?_ ?_
        all_goals simp
set_option maxHeartbeats 8000000 in
theorem c73 (p : List Int) (hp7 : p.length < 1000) (b : Int) (S : St) : EvF gS 73 [.slice (intVs p), .int .i64 b] S = some (.ret (.slice (intVs (kidsT p b))) none, S) := by
  refine EvF_start fi207_eq (fun x h => by cases h) m73 ?_
  rw [st73]
  have hm : fi73.marks = [1000000] := rfl
  have hl : fi73.locals = [] := rfl
  have hr : fi73.results = [.tmp 4] := rfl
  have hz := fun xs st => frz_slice (xs := intVs xs) (flats_ints xs) st
  have hz0 := hz [] S
  rw [show intVs [] = [] from rfl] at hz0
  have ki := fun fr st => k72 p b (by omega) fr st
  unfold kidsT
  cases hi : isT p b with
  | false =>
    rw [hi] at ki
    rw [if_neg (by simp), show intVs [] = [] from rfl]
    simp [ki, hz0, -Int.not_le, -Int.not_lt, -Nat.not_le, -Nat.not_lt, ty3, ty4, ty22, hm, hl, hr, E73, e73_33, n73_16]
  | true =>
    rw [hi] at ki
    rw [if_pos rfl]
    generalize hK : kidG b 0 p [] = K
    generalize hR : (Out.ret (V.slice (intVs K)) none, S) = R
    have H33 : ∀ (e6 e7 : E) (T : List (Nat × E)) (X : List (Nat × List V)), e6.Tame → e7.Tame → evK gS fi73 c73_33 { ps := [(0, .val (.slice (intVs p))), (1, .val (.int .i64 b)), (4, .own 0 []), (5, .own (kof 1 K) (intVs K)), (6, e6), (7, e7), (13, .val (.slice (intVs p))), (14, .val (.int .i64 p.length)), (15, .val (.int .i64 p.length))], ts := T, lc := X } S .nil = some R := by
      intro e6 e7 T X h6 h7
      rcases kof_or 1 K with ⟨hk, rfl⟩ | hk
      · rw [hk, show intVs [] = [] from rfl]
        simp [-Int.natCast_add, h6, h7, hz0, ← hR, show intVs [] = [] from rfl, -Int.not_le, -Int.not_lt, -Nat.not_le, -Nat.not_lt, ty3, ty4, ty22, hm, hl, hr, E73, e73_33, n73_16]
      · rw [hk]
        simp [-Int.natCast_add, h6, h7, hz, ← hR, -Int.not_le, -Int.not_lt, -Nat.not_le, -Nat.not_lt, ty3, ty4, ty22, hm, hl, hr, E73, e73_33, n73_16]
    have LL := fun e6 e7 T X h6 h7 => LK7 p hp7 b S R K H33 p.length 0 [] e6 e7 T X h6 h7 (Nat.zero_le _) rfl (by rw [List.drop_zero]; exact hK.symm) (Nat.le_refl _)
    rw [show ((0 : Nat) : Int) = 0 from rfl] at LL
    rw [show kof 1 ([] : List Int) = 0 from rfl, show intVs [] = [] from rfl] at LL
    simp [ki, -Int.not_le, -Int.not_lt, -Nat.not_le, -Nat.not_lt, ty3, ty4, ty22, hm, hl, hr, E73, e73_33, n73_16]
    refine LL _ _ _ _ ?_ ?_
    all_goals simp
theorem k73 (p : List Int) (hp7 : p.length < 1000) (b : Int) (fr : Fr) (st : St) : callStep gS (EvF gS) 73 [.slice (intVs p), .int .i64 b] fr st = some (.ok (.val (.slice (intVs (kidsT p b)))) fr st) :=
  call_pure rfl fi207_eq rfl (fun st => c73 p hp7 b st) (by simp [V.flat])
def fi41 : FI := { body := codeOf Try.f41, ntmps := 26, results := [.tmp 4], pers := [0, 1, 4, 5], locals := [], pure := true, marks := [1000000] }
theorem fi208_eq : gS.fn 41 = some fi41 := by kernel_rfl
theorem st41 (a0 a1 : V) : startFr fi41 [a0, a1] = { ps := [(0, .val a0), (1, .val a1), (4, .any), (5, .any)], ts := [], lc := [] } := rfl
def b41 : Code := mini (codeOf Try.f41)
def c41_8 : Code := .seq (codeN b41 75) .ret
def c41_7 : Code := .cond (.tmp 9) c41_8 .skip
def c41_5 : Code := .seq (codeN b41 19) c41_7
def c41_16 : Code := codeN b41 87
def c41_15 : Code := .cond (.tmp 12) c41_16 .skip
def c41_13 : Code := .seq (codeN b41 39) c41_15
def c41_18 : Code := .seq (codeN b41 47) .ret
def c41_12 : Code := .seq c41_13 c41_18
def c41_4 : Code := .seq c41_5 c41_12
def c41_2 : Code := .seq (codeN b41 5) c41_4
def c41_0 : Code := .seq (codeN b41 2) c41_2
theorem E41 : (evK gS fi41 c41_8 fr st k = opsR gS fi41 [mv 10 5 22,
 asn 4 10 22] fr st (.seq .ret k)) ∧
 evK gS fi41 c41_7 fr st k = condK gS fi41 (fr.op (.tmp 9)).bool? c41_8 .skip fr st k ∧
 (evK gS fi41 c41_5 fr st k = opsR gS fi41 [mv 6 0 22,
 mv 7 1 3,
 cal 8 72 [(.tmp 6), (.tmp 7)] [22, 3] 4,
 op1 9 (.unOp .not 4 (.tmp 8)) 4] fr st (.seq c41_7 k)) ∧
 (evK gS fi41 c41_16 fr st k = opsR gS fi41 [mv 13 5 22,
 mv 14 0 22,
 mv 15 1 3,
 op1 16 (.binOp .sub 3 (.tmp 15) (.const (.int .i64 1)) 3) 3,
 ixa 17 22 14 16 0,
 ld 18 3 17 3,
 op1 19 (.buildSlice 22 1 #[(0, (.tmp 18))]) 22,
 op1 20 (.call { callee := (.builtin .append), args := #[(.tmp 13), (.tmp 19)], argTypes := #[22, 22] }) 22,
 asn 5 20 22] fr st k) ∧
 evK gS fi41 c41_15 fr st k = condK gS fi41 (fr.op (.tmp 12)).bool? c41_16 .skip fr st k ∧
 (evK gS fi41 c41_13 fr st k = opsR gS fi41 [mv 11 1 3,
 op1 12 (.binOp .gtr 3 (.tmp 11) (.const (.int .i64 0)) 3) 4] fr st (.seq c41_15 k)) ∧
 (evK gS fi41 c41_18 fr st k = opsR gS fi41 [mv 21 5 22,
 mv 22 0 22,
 mv 23 1 3,
 cal 24 73 [(.tmp 22), (.tmp 23)] [22, 3] 22,
 op1 25 (.call { callee := (.builtin .append), args := #[(.tmp 21), (.tmp 24)], argTypes := #[22, 22] }) 22,
 asn 4 25 22] fr st (.seq .ret k)) ∧
 evK gS fi41 c41_12 fr st k = evK gS fi41 c41_13 fr st (.seq c41_18 k) ∧
 evK gS fi41 c41_4 fr st k = evK gS fi41 c41_5 fr st (.seq c41_12 k) ∧
 evK gS fi41 c41_2 fr st k = opsR gS fi41 [op1 5 (.assign (.const (.slice none 0 0))) 22] fr st (.seq c41_4 k) ∧
 evK gS fi41 c41_0 fr st k = opsR gS fi41 [op1 4 (.assign (.const (.slice none 0 0))) 22] fr st (.seq c41_2 k) := ⟨evK_rs 3 rfl (by kernel_rfl), rfl, evK_rs 2 rfl (by kernel_rfl), evK_r 5 (by kernel_rfl), rfl, evK_rs 4 rfl (by kernel_rfl), evK_rs 6 rfl (by kernel_rfl), rfl, rfl, evK_rs 1 rfl (by kernel_rfl), evK_rs 0 rfl (by kernel_rfl)⟩
theorem m41 : mini fi41.body = c41_0 := by kernel_rfl
set_option maxHeartbeats 8000000 in
theorem c41 (p : List Int) (hp7 : p.length < 1000) (b : Int) (S : St) : EvF gS 41 [.slice (intVs p), .int .i64 b] S = some (.ret (.slice (intVs (nearT p b))) none, S) := by
  refine EvF_start fi208_eq (fun x h => by cases h) m41 ?_
  rw [st41]
  have hm : fi41.marks = [1000000] := rfl
  have hl : fi41.locals = [] := rfl
  have hr : fi41.results = [.tmp 4] := rfl
  have hz := fun xs st => frz_slice (xs := intVs xs) (flats_ints xs) st
  have hz0 := hz [] S
  rw [show intVs [] = [] from rfl] at hz0
  have ki := fun fr st => k72 p b (by omega) fr st
  have kk := fun fr st => k73 p hp7 b fr st
  have hkl : (kidsT p b).length ≤ p.length := by
    have := kidG_len b p 0 []
    unfold kidsT
    split
    · simpa using this
    · simp
  unfold nearT
  cases hi : isT p b with
  | false =>
    rw [hi] at ki
    rw [if_neg (by simp), show intVs [] = [] from rfl]
    simp [ki, hz0, -Int.not_le, -Int.not_lt, -Nat.not_le, -Nat.not_lt, ty3, ty4, ty22, hm, hl, hr, E41]
  | true =>
    rw [hi] at ki
    rw [if_pos rfl]
    obtain ⟨h1, h2, k, rfl, hk⟩ := is_nat hi
    generalize kidsT p (k : Int) = K at *
    by_cases h0 : (0 : Int) < (k : Int)
    · rw [if_pos h0]
      obtain ⟨j, rfl⟩ : ∃ j, k = j + 1 := ⟨k - 1, by omega⟩
      obtain ⟨x, hx⟩ : ∃ x, p[j]? = some x := ⟨p[j]'(by omega), List.getElem?_eq_getElem (by omega)⟩
      obtain ⟨x1, x2⟩ := List.getElem?_eq_some_iff.1 hx
      have hw : IntKind.wrap .i64 (((j + 1 : Nat) : Int) - 1) = (j : Int) := by rw [wrap64 (by omega) (by omega)]; omega
      have hg : p.getD (((j + 1 : Nat) : Int).toNat - 1) 0 = x := by rw [Int.toNat_natCast, Nat.add_sub_cancel, List.getD_eq_getElem?_getD, hx]; rfl
      rw [hg]
      have hjl : (j : Int) < (p.length : Int) := by omega
      have e1 : .int .i64 x :: intVs K = intVs ([x] ++ K) := rfl
      have hs1 := sizes_ints K
      have b1 : (1 + K.length) * 8 ≤ 140737488355328 := by omega
      have b2 : 1 + K.length ≤ 140737488355328 := by omega
      have hz1 := hz ([x] ++ K) S
      generalize intVs ([x] ++ K) = L at *
      simp [-Int.natCast_add, -List.append_assoc, ki, kk, h0, hw, hx, x1, x2, hjl, e1, hs1, b1, b2, hz1, -Int.not_le, -Int.not_lt, -Nat.not_le, -Nat.not_lt, ty3, ty4, ty22, hm, hl, hr, E41]
    · rw [if_neg h0, List.nil_append]
      have h0' : ¬ 0 < k := by omega
      have hs1 := sizes_ints K
      have b1 : K.length * 8 ≤ 140737488355328 := by omega
      have b2 : K.length ≤ 140737488355328 := by omega
      have hz1 := hz K S
      simp [-Int.natCast_add, ki, kk, h0, h0', hs1, b1, b2, hz1, -Int.not_le, -Int.not_lt, -Nat.not_le, -Nat.not_lt, ty3, ty4, ty22, hm, hl, hr, E41]
theorem k41 (p : List Int) (hp7 : p.length < 1000) (b : Int) (fr : Fr) (st : St) : callStep gS (EvF gS) 41 [.slice (intVs p), .int .i64 b] fr st = some (.ok (.val (.slice (intVs (nearT p b)))) fr st) :=
  call_pure rfl fi208_eq rfl (fun st => c41 p hp7 b st) (by simp [V.flat])
def fi75 : FI := { body := codeOf Try.f75, ntmps := 28, results := [.tmp 6], pers := [0, 1, 2, 6], locals := [], pure := true, marks := [] }
theorem fi209_eq : gS.fn 75 = some fi75 := by kernel_rfl
theorem st75 (a0 a1 a2 : V) : startFr fi75 [a0, a1, a2] = { ps := [(0, .val a0), (1, .val a1), (2, .val a2), (6, .any)], ts := [], lc := [] } := rfl
def b75 : Code := mini (codeOf Try.f75)
def c75_6 : Code := .seq (codeN b75 37) .ret
def c75_5 : Code := .cond (.tmp 21) c75_6 .skip
def c75_3 : Code := .seq (codeN b75 9) c75_5
def c75_10 : Code := .seq (codeN b75 11) .ret
def c75_2 : Code := .seq c75_3 c75_10
def c75_0 : Code := .seq (codeN b75 2) c75_2
theorem E75 : evK gS fi75 c75_6 fr st k = opsR gS fi75 [op1 6 (.assign (.const (.int .i64 (-1)))) 3] fr st (.seq .ret k) ∧
 evK gS fi75 c75_5 fr st k = condK gS fi75 (fr.op (.tmp 21)).bool? c75_6 .skip fr st k ∧
 (evK gS fi75 c75_3 fr st k = opsR gS fi75 [mv 7 0 22,
 mv 8 1 3,
 cal 9 72 [(.tmp 7), (.tmp 8)] [22, 3] 4,
 op1 10 (.unOp .not 4 (.tmp 9)) 4,
 mv 11 10 4,
 mk (some 12) (.move (.tmp 0)) 22 (some (4, false)),
 mk (some 13) (.move (.tmp 2)) 3 (some (4, false)),
 mk (some 14) (.call { callee := (.value (.func 72)), args := #[(.tmp 12), (.tmp 13)], argTypes := #[22, 3] }) 4 (some (4, false)),
 mk (some 15) (.unOp .not 4 (.tmp 14)) 4 (some (4, false)),
 op1 16 (.pick (.tmp 11) (.const (.bool true)) (.tmp 15)) 4,
 mv 17 16 4,
 mk (some 18) (.move (.tmp 1)) 3 (some (10, false)),
 mk (some 19) (.move (.tmp 2)) 3 (some (10, false)),
 mk (some 20) (.binOp .eql 3 (.tmp 18) (.tmp 19) 3) 4 (some (10, false)),
 op1 21 (.pick (.tmp 17) (.const (.bool true)) (.tmp 20)) 4] fr st (.seq c75_5 k)) ∧
 (evK gS fi75 c75_10 fr st k = opsR gS fi75 [mv 22 0 22,
 mv 23 1 3,
 mv 24 2 3,
 cal 25 79 [(.tmp 22), (.tmp 23), (.tmp 24)] [22, 3, 3] 22,
 op1 26 (.indexAddr 22 (.tmp 25) (.const (.int .i64 1))) 0,
 ld 27 3 26 3,
 asn 6 27 3] fr st (.seq .ret k)) ∧
 evK gS fi75 c75_2 fr st k = evK gS fi75 c75_3 fr st (.seq c75_10 k) ∧
 evK gS fi75 c75_0 fr st k = opsR gS fi75 [op1 6 (.assign (.const (.int .i64 0))) 3] fr st (.seq c75_2 k) := ⟨evK_rs 2 rfl (by kernel_rfl), rfl, evK_rs 1 rfl (by kernel_rfl), evK_rs 3 rfl (by kernel_rfl), rfl, evK_rs 0 rfl (by kernel_rfl)⟩
theorem m75 : mini fi75.body = c75_0 := by kernel_rfl
set_option maxHeartbeats 8000000 in
theorem c75 (p : List Int) (hp7 : p.length < 1000) (a b : Int) (S : St) : EvF gS 75 [.slice (intVs p), .int .i64 a, .int .i64 b] S = some (.ret (.int .i64 (nextT p a b)) none, S) := by
  refine EvF_start fi209_eq (fun x h => by cases h) m75 ?_
  rw [st75]
  have hm : fi75.marks = [] := rfl
  have hl : fi75.locals = [] := rfl
  have hr : fi75.results = [.tmp 6] := rfl
  have hz := fun xs st => frz_slice (xs := intVs xs) (flats_ints xs) st
  have hz0 := hz [] S
  rw [show intVs [] = [] from rfl] at hz0
  have ka := fun fr st => k72 p a (by omega) fr st
  have kb := fun fr st => k72 p b (by omega) fr st
  unfold nextT
  cases ha : isT p a with
  | false => rw [ha] at ka; simp [ka, -Int.not_le, -Int.not_lt, -Nat.not_le, -Nat.not_lt, ty3, ty4, ty22, hm, hl, hr, E75]
  | true =>
    cases hb : isT p b with
    | false => rw [ha] at ka; rw [hb] at kb; simp [ka, kb, -Int.not_le, -Int.not_lt, -Nat.not_le, -Nat.not_lt, ty3, ty4, ty22, hm, hl, hr, E75]
    | true =>
      rw [ha] at ka; rw [hb] at kb
      by_cases he : a = b
      · subst he; simp [ka, -Int.not_le, -Int.not_lt, -Nat.not_le, -Nat.not_lt, ty3, ty4, ty22, hm, hl, hr, E75]
      · obtain ⟨h1, h2, i, rfl, hi⟩ := is_nat ha
        obtain ⟨_, _, j, rfl, hj⟩ := is_nat hb
        have kp := fun fr st => k79 p h1 h2 i j hi hj fr st
        have hij : ¬ i = j := fun e => he (by rw [e])
        have h2 := path_two (p := p) hij
        simp only [Int.toNat_natCast]
        generalize pathT p i j = P at *
        obtain ⟨y, hy⟩ : ∃ y, P[1]? = some y := ⟨P[1]'(by omega), List.getElem?_eq_getElem (by omega)⟩
        obtain ⟨y1, y2⟩ := List.getElem?_eq_some_iff.1 hy
        have hd : P.getD 1 0 = y := by rw [List.getD_eq_getElem?_getD, hy]; rfl
        rw [hd]
        simp [-Int.natCast_add, ka, kb, kp, he, hij, hy, y1, y2, -Int.not_le, -Int.not_lt, -Nat.not_le, -Nat.not_lt, ty3, ty4, ty22, hm, hl, hr, E75]
theorem k75 (p : List Int) (hp7 : p.length < 1000) (a b : Int) (fr : Fr) (st : St) : callStep gS (EvF gS) 75 [.slice (intVs p), .int .i64 a, .int .i64 b] fr st = some (.ok (.val (.int .i64 (nextT p a b))) fr st) :=
  call_pure rfl fi209_eq rfl (fun st => c75 p hp7 a b st) (by simp [V.flat])
def fi43 : FI := { body := codeOf Try.f43, ntmps := 30, results := [.tmp 6], pers := [0, 1, 2, 6, 7, 8], locals := [], pure := true, marks := [1000000] }
theorem fi210_eq : gS.fn 43 = some fi43 := by kernel_rfl
theorem st43 (a0 a1 a2 : V) : startFr fi43 [a0, a1, a2] = { ps := [(0, .val a0), (1, .val a1), (2, .val a2), (6, .any), (7, .any), (8, .any)], ts := [], lc := [] } := rfl
def b43 : Code := mini (codeOf Try.f43)
def c43_12 : Code := .cond (.tmp 16) .skip (.exit 0)
def c43_10 : Code := .seq (codeN b43 267) c43_12
def c43_20 : Code := codeN b43 2635
def c43_19 : Code := .cond (.tmp 24) c43_20 .skip
def c43_17 : Code := .seq (codeN b43 1099) c43_19
def c43_22 : Code := codeN b43 459
def c43_15 : Code := .seq (.block 1 c43_17) c43_22
def c43_9 : Code := .seq c43_10 c43_15
def c43_8 : Code := .loop c43_9
def c43_7 : Code := .block 0 c43_8
def c43_5 : Code := .seq (codeN b43 19) c43_7
def c43_23 : Code := .seq (codeN b43 23) .ret
theorem e43_23 : evK gS fi43 c43_23 fr st k = opsR gS fi43 [mv 29 7 22,
 asn 6 29 22] fr st (.seq .ret k) := evK_rs 7 rfl (by kernel_rfl)
def c43_4 : Code := .seq c43_5 c43_23
def c43_2 : Code := .seq (codeN b43 5) c43_4
def c43_0 : Code := .seq (codeN b43 2) c43_2
theorem E43 : evK gS fi43 c43_12 fr st k = condK gS fi43 (fr.op (.tmp 16)).bool? .skip (.exit 0) fr st k ∧
 (evK gS fi43 c43_10 fr st k = opsR gS fi43 [mv 9 8 3,
 mv 10 0 22,
 len1 11 10 22 3,
 bop 12 .leq 3 9 11 3 4,
 mv 13 12 4,
 mk (some 14) (.move (.tmp 2)) 3 (some (4, true)),
 mk (some 15) (.binOp .geq 3 (.tmp 14) (.const (.int .i64 0)) 3) 4 (some (4, true)),
 op1 16 (.pick (.tmp 13) (.tmp 15) (.const (.bool false))) 4] fr st (.seq c43_12 k)) ∧
 (evK gS fi43 c43_20 fr st k = opsR gS fi43 [mv 25 7 22,
 mv 26 8 3,
 op1 27 (.buildSlice 22 1 #[(0, (.tmp 26))]) 22,
 op1 28 (.call { callee := (.builtin .append), args := #[(.tmp 25), (.tmp 27)], argTypes := #[22, 22] }) 22,
 asn 7 28 22] fr st k) ∧
 evK gS fi43 c43_19 fr st k = condK gS fi43 (fr.op (.tmp 24)).bool? c43_20 .skip fr st k ∧
 (evK gS fi43 c43_17 fr st k = opsR gS fi43 [mv 19 0 22,
 mv 20 1 3,
 mv 21 8 3,
 cal 22 75 [(.tmp 19), (.tmp 20), (.tmp 21)] [22, 3, 3] 3,
 mv 23 2 3,
 bop 24 .eql 3 22 23 3 4] fr st (.seq c43_19 k)) ∧
 (evK gS fi43 c43_22 fr st k = opsR gS fi43 [mv 17 8 3,
 op1 18 (.binOp .add 3 (.tmp 17) (.const (.int .i64 1)) 3) 3,
 asn 8 18 3] fr st k) ∧
 evK gS fi43 c43_15 fr st k = evK gS fi43 c43_17 fr st (.blk 1 (.seq c43_22 k)) ∧
 evK gS fi43 c43_9 fr st k = evK gS fi43 c43_10 fr st (.seq c43_15 k) ∧
 evK gS fi43 c43_7 fr st k = evK gS fi43 c43_8 fr st (.blk 0 k) ∧
 evK gS fi43 c43_5 fr st k = opsR gS fi43 [op1 8 (.assign (.const (.int .i64 0))) 3] fr st (.seq c43_7 k) ∧
 evK gS fi43 c43_4 fr st k = evK gS fi43 c43_5 fr st (.seq c43_23 k) ∧
 evK gS fi43 c43_2 fr st k = opsR gS fi43 [op1 7 (.assign (.const (.slice none 0 0))) 22] fr st (.seq c43_4 k) ∧
 evK gS fi43 c43_0 fr st k = opsR gS fi43 [op1 6 (.assign (.const (.slice none 0 0))) 22] fr st (.seq c43_2 k) := ⟨rfl, evK_rs 3 rfl (by kernel_rfl), evK_r 6 (by kernel_rfl), rfl, evK_rs 5 rfl (by kernel_rfl), evK_r 4 (by kernel_rfl), rfl, rfl, rfl, evK_rs 2 rfl (by kernel_rfl), rfl, evK_rs 1 rfl (by kernel_rfl), evK_rs 0 rfl (by kernel_rfl)⟩
theorem m43 : mini fi43.body = c43_0 := by kernel_rfl
theorem n43_8 (fr : Fr) (st : St) (k : Kt) : nextK gS fi43 (.loop c43_9 k) .normal fr st = evK gS fi43 c43_8 fr st k := rfl
set_option maxHeartbeats 8000000 in
theorem LS0 (p : List Int) (hp7 : p.length < 1000) (b t : Int) (ht : 0 ≤ t) (S : St) (R : Out × St)  (fin : List Int)
    (H : ∀  (T : List (Nat × E)) (X : List (Nat × List V)), evK gS fi43 c43_23 { ps := [(0, .val (.slice (intVs p))), (1, .val (.int .i64 b)), (2, .val (.int .i64 t)), (6, .own 0 []), (7, .own (kof 1 fin) (intVs fin)), (8, .val (.int .i64 (p.length + 1)))], ts := T, lc := X } S .nil = some R) :
    ∀ (m q : Nat) (out : List Int)  (T : List (Nat × E)) (X : List (Nat × List V)) , q ≤ (p.length + 1) → (p.length + 1) - q = m → fin = sideG p b t (p.length + 1 - q) q out → out.length ≤ q →
    evK gS fi43 c43_8 { ps := [(0, .val (.slice (intVs p))), (1, .val (.int .i64 b)), (2, .val (.int .i64 t)), (6, .own 0 []), (7, .own (kof 1 out) (intVs out)), (8, .val (.int .i64 (q : Nat)))], ts := T, lc := X } S (.blk 0 (.seq c43_23 .nil)) = some R := by
  intro m
  have hm : fi43.marks = [1000000] := rfl
  have hl : fi43.locals = [] := rfl
  have hr : fi43.results = [.tmp 6] := rfl
  induction m with
  | zero =>
    intro q out  T X  hq hm2 hf hol
    obtain rfl : q = (p.length + 1) := by omega
    rw [Nat.sub_self] at hf
    have hf2 : fin = out := hf
    subst hf2
    have hn1 : ¬ ((p.length + 1 : Nat) : Int) ≤ (p.length : Int) := by omega
    have hn2 : ¬ p.length + 1 ≤ p.length := by omega
    refine evK_loop c43_9 _ _ _ _ rfl ?_
    rcases kof_or 1 fin with ⟨hk, rfl⟩ | hk
    · rw [hk, show intVs [] = [] from rfl] at H ⊢
      simp [-Int.natCast_add, -St.obj, -St.set, hn1, hn2, ht, -Int.not_le, -Int.not_lt, -Nat.not_le, -Nat.not_lt, ty3, ty4, ty22, hm, hl, hr, E43, n43_8]
      exact H  _ _ 
    · rw [hk] at H ⊢
      simp [-Int.natCast_add, -St.obj, -St.set, hn1, hn2, ht, -Int.not_le, -Int.not_lt, -Nat.not_le, -Nat.not_lt, ty3, ty4, ty22, hm, hl, hr, E43, n43_8]
      exact H  _ _ 
  | succ m ih =>
    intro q out  T X  hq hm2 hf hol
    have hx1 : (q : Int) ≤ (p.length : Int) := by omega
    have hx2 : q ≤ p.length := by omega
    have hw : IntKind.wrap .i64 ((q : Int) + 1) = ((q + 1 : Nat) : Int) := by rw [wrap64 (by omega) (by omega)]; omega
    rw [hm2, show sideG p b t (m + 1) q out = sideG p b t m (q + 1) (if nextT p b q = t then out ++ [(q : Int)] else out) from rfl] at hf
    have kk := fun fr st => k75 p hp7 b (q : Int) fr st
    have hs1 := sizes_ints out
    have hs2 := ints_snoc out (q : Int)
    have b1 : (out.length + 1) * 8 ≤ 140737488355328 := by omega
    have b2 : out.length + 1 ≤ 140737488355328 := by omega
    have hm3 : p.length + 1 - (q + 1) = m := by omega
    generalize nextT p b q = z at *
    refine evK_loop c43_9 _ _ _ _ rfl ?_
    by_cases hb : z = t
    · rw [if_pos hb] at hf
      have IH := fun T X => ih (q + 1) (out ++ [(q : Int)]) T X (by omega) (by omega) (by rw [hm3]; exact hf) (by simp; omega)
      rw [kof_snoc] at IH
      rcases kof_or 1 out with ⟨hk, rfl⟩ | hk
      · have en1 : intVs ([] ++ [(q : Int)]) = [.int .i64 (q : Int)] := rfl
        rw [en1] at IH
        rw [hk, show intVs [] = [] from rfl]
        simp [-Int.natCast_add, hx1, hx2, ht, hw, hb, kk, IH, -Int.not_le, -Int.not_lt, -Nat.not_le, -Nat.not_lt, ty3, ty4, ty22, hm, hl, hr, E43, e43_23, n43_8]
      · rw [hk]
        simp [-Int.natCast_add, -List.append_assoc, hx1, hx2, ht, hw, hb, kk, hs1, hs2, b1, b2, IH, -Int.not_le, -Int.not_lt, -Nat.not_le, -Nat.not_lt, ty3, ty4, ty22, hm, hl, hr, E43, e43_23, n43_8]
    · rw [if_neg hb] at hf
      have IH := fun T X => ih (q + 1) out T X (by omega) (by omega) (by rw [hm3]; exact hf) (by omega)
      rcases kof_or 1 out with ⟨hk, rfl⟩ | hk
      · rw [hk, show intVs [] = [] from rfl] at IH ⊢
        simp [-Int.natCast_add, hx1, hx2, ht, hw, hb, kk, IH, -Int.not_le, -Int.not_lt, -Nat.not_le, -Nat.not_lt, ty3, ty4, ty22, hm, hl, hr, E43, e43_23, n43_8]
      · rw [hk] at IH ⊢
        simp [-Int.natCast_add, hx1, hx2, ht, hw, hb, kk, IH, -Int.not_le, -Int.not_lt, -Nat.not_le, -Nat.not_lt, ty3, ty4, ty22, hm, hl, hr, E43, e43_23, n43_8]
set_option maxHeartbeats 8000000 in
theorem c43 (p : List Int) (hp7 : p.length < 1000) (b t : Int) (S : St) : EvF gS 43 [.slice (intVs p), .int .i64 b, .int .i64 t] S = some (.ret (.slice (intVs (sideT p b t))) none, S) := by
  refine EvF_start fi210_eq (fun x h => by cases h) m43 ?_
  rw [st43]
  have hm : fi43.marks = [1000000] := rfl
  have hl : fi43.locals = [] := rfl
  have hr : fi43.results = [.tmp 6] := rfl
  have hz := fun xs st => frz_slice (xs := intVs xs) (flats_ints xs) st
  have hz0 := hz [] S
  rw [show intVs [] = [] from rfl] at hz0
  unfold sideT
  by_cases ht : 0 ≤ t
  · rw [if_pos ht]
    generalize hK : sideG p b t (p.length + 1) 0 [] = K
    generalize hR : (Out.ret (V.slice (intVs K)) none, S) = R
    have H23 : ∀  (T : List (Nat × E)) (X : List (Nat × List V)), evK gS fi43 c43_23 { ps := [(0, .val (.slice (intVs p))), (1, .val (.int .i64 b)), (2, .val (.int .i64 t)), (6, .own 0 []), (7, .own (kof 1 K) (intVs K)), (8, .val (.int .i64 (p.length + 1 : Nat)))], ts := T, lc := X } S .nil = some R := by
      intro  T X 
      rcases kof_or 1 K with ⟨hk, rfl⟩ | hk
      · rw [hk, show intVs [] = [] from rfl]
        simp [-Int.natCast_add, hz0, ← hR, show intVs [] = [] from rfl, -Int.not_le, -Int.not_lt, -Nat.not_le, -Nat.not_lt, ty3, ty4, ty22, hm, hl, hr, E43, e43_23, n43_8]
      · rw [hk]
        simp [-Int.natCast_add, hz, ← hR, -Int.not_le, -Int.not_lt, -Nat.not_le, -Nat.not_lt, ty3, ty4, ty22, hm, hl, hr, E43, e43_23, n43_8]
    have LL := fun  T X  => LS0 p hp7 b t ht S R K H23 (p.length + 1) 0 []  T X  (Nat.zero_le _) rfl (by rw [Nat.sub_zero]; exact hK.symm) (Nat.le_refl _)
    rw [show ((0 : Nat) : Int) = 0 from rfl] at LL
    rw [show kof 1 ([] : List Int) = 0 from rfl, show intVs [] = [] from rfl] at LL
    simp [LL, -Int.not_le, -Int.not_lt, -Nat.not_le, -Nat.not_lt, ty3, ty4, ty22, hm, hl, hr, E43, e43_23, n43_8]
  · rw [if_neg ht, show intVs [] = [] from rfl]
    have h0 : (0 : Int) ≤ (p.length : Int) := by omega
    simp [-Int.not_le, -Int.not_lt, -Nat.not_le, -Nat.not_lt, ty3, ty4, ty22, hm, hl, hr, E43, e43_23, n43_8]
    refine evK_loop c43_9 _ _ _ _ rfl ?_
    simp [h0, ht, hz0, -Int.not_le, -Int.not_lt, -Nat.not_le, -Nat.not_lt, ty3, ty4, ty22, hm, hl, hr, E43, e43_23, n43_8]
theorem k43 (p : List Int) (hp7 : p.length < 1000) (b t : Int) (fr : Fr) (st : St) : callStep gS (EvF gS) 43 [.slice (intVs p), .int .i64 b, .int .i64 t] fr st = some (.ok (.val (.slice (intVs (sideT p b t)))) fr st) :=
  call_pure rfl fi210_eq rfl (fun st => c43 p hp7 b t st) (by simp [V.flat])
theorem x43 : gS.ext 43 = none := rfl
theorem p43 : fi43.pure = true := rfl
def fi68 : FI := { body := codeOf Try.f68, ntmps := 17, results := [.tmp 4], pers := [0, 1, 4, 6, 7, 8, 9], locals := [], pure := true, marks := [] }
theorem fi230_eq : gS.fn 68 = some fi68 := by kernel_rfl
theorem st68 (a0 a1 : V) : startFr fi68 [a0, a1] = { ps := [(0, .val a0), (1, .val a1), (4, .any), (6, .any), (7, .any), (8, .any), (9, .any)], ts := [], lc := [] } := rfl
def b68 : Code := mini (codeOf Try.f68)
def c68_20 : Code := .seq (codeN b68 9829) .ret
def c68_19 : Code := .cond (.tmp 15) c68_20 .skip
def c68_17 : Code := .seq (codeN b68 2661) c68_19
def c68_15 : Code := .seq (codeN b68 1125) c68_17
def c68_24 : Code := codeN b68 485
def c68_13 : Code := .seq (.block 1 c68_15) c68_24
def c68_9 : Code := .seq (.cond (.tmp 10) .skip (.exit 0)) c68_13
def c68_7 : Code := .seq (codeN b68 69) c68_9
def c68_6 : Code := .loop c68_7
def c68_5 : Code := .block 0 c68_6
def c68_3 : Code := .seq (codeN b68 9) c68_5
def c68_25 : Code := .seq (codeN b68 11) .ret
def c68_2 : Code := .seq c68_3 c68_25
def c68_0 : Code := .seq (codeN b68 2) c68_2
theorem E68 : evK gS fi68 c68_20 fr st k = opsR gS fi68 [op1 4 (.assign (.const (.bool true))) 4] fr st (.seq .ret k) ∧
 evK gS fi68 c68_19 fr st k = condK gS fi68 (fr.op (.tmp 15)).bool? c68_20 .skip fr st k ∧
 (evK gS fi68 c68_17 fr st k = opsR gS fi68 [mv 13 6 3,
 mv 14 1 3,
 bop 15 .eql 3 13 14 3 4] fr st (.seq c68_19 k)) ∧
 (evK gS fi68 c68_15 fr st k = opsR gS fi68 [ixa 11 22 7 9 0,
 ld 12 3 11 3,
 asn 6 12 3] fr st (.seq c68_17 k)) ∧
 (evK gS fi68 c68_24 fr st k = opsR gS fi68 [op1 16 (.binOp .add 3 (.tmp 9) (.const (.int .i64 1)) 3) 3,
 mv 9 16 3] fr st k) ∧
 evK gS fi68 c68_13 fr st k = evK gS fi68 c68_15 fr st (.blk 1 (.seq c68_24 k)) ∧
 evK gS fi68 c68_9 fr st k = condK gS fi68 (fr.op (.tmp 10)).bool? .skip (.exit 0) fr st (.seq c68_13 k) ∧
 evK gS fi68 c68_7 fr st k = opsR gS fi68 [bop 10 .lss 3 9 8 3 0] fr st (.seq c68_9 k) ∧
 evK gS fi68 c68_5 fr st k = evK gS fi68 c68_6 fr st (.blk 0 k) ∧
 (evK gS fi68 c68_3 fr st k = opsR gS fi68 [mv 7 0 22,
 len1 8 7 22 3,
 op1 9 (.move (.const (.int .i64 0))) 3] fr st (.seq c68_5 k)) ∧
 evK gS fi68 c68_25 fr st k = opsR gS fi68 [op1 4 (.assign (.const (.bool false))) 4] fr st (.seq .ret k) ∧
 evK gS fi68 c68_2 fr st k = evK gS fi68 c68_3 fr st (.seq c68_25 k) ∧
 evK gS fi68 c68_0 fr st k = opsR gS fi68 [op1 4 (.assign (.const (.bool false))) 4] fr st (.seq c68_2 k) := ⟨evK_rs 5 rfl (by kernel_rfl), rfl, evK_rs 4 rfl (by kernel_rfl), evK_rs 3 rfl (by kernel_rfl), evK_r 6 (by kernel_rfl), rfl, rfl, evK_rs 2 rfl (by kernel_rfl), rfl, evK_rs 1 rfl (by kernel_rfl), evK_rs 7 rfl (by kernel_rfl), rfl, evK_rs 0 rfl (by kernel_rfl)⟩
theorem m68 : mini fi68.body = c68_0 := by kernel_rfl
theorem n68_6 (fr : Fr) (st : St) (k : Kt) : nextK gS fi68 (.loop c68_7 k) .normal fr st = evK gS fi68 c68_6 fr st k := rfl
set_option maxHeartbeats 4000000 in
theorem L68_6 (l : List Int) (n0 : Int) (h_l : l.length < 4611686018427387904) (st : St) : ∀ (n i : Nat) (j : Int)  (e0 e6 : E) (T : List (Nat × E)) (X : List (Nat × List V)) (ht0 : e0.Tame) (ht6 : e6.Tame) , j = (i : Int) → i ≤ (l).length → (l).length - i = n →
    evK gS fi68 c68_6 { ps := [(0, e0), (1, .val (.int .i64 n0)), (4, .val (.bool false)), (6, e6), (7, .val (.slice (intVs l))), (8, .val (.int .i64 l.length)), (9, .val (.int .i64 j))], ts := T, lc := X } st (.blk 0 (.seq c68_25 .nil)) = some ((.ret (.bool (hasI (l.drop i) n0)) none), st) := by
  intro n
  have hm : fi68.marks = [] := rfl
  have hl : fi68.locals = [] := rfl
  have hr : fi68.results = [.tmp 4] := rfl
  induction n with
  | zero =>
    intro i j  e0 e6 T X ht0 ht6  hj hi hn
    obtain rfl : i = (l).length := by omega
    subst hj
    refine evK_loop c68_7 _ st _ _ rfl ?_
    simp (config := { contextual := true, maxSteps := 10000000, maxDischargeDepth := 6 }) [-Int.not_le, -Int.not_lt, -Nat.not_le, -Nat.not_lt, ty3, ty4, ty22, hm, hl, hr, E68, n68_6, ht0, ht6]
    all_goals try simp (config := { contextual := true }) [-Int.not_le, -Int.not_lt, -Nat.not_le, -Nat.not_lt, hasI]
    all_goals first | done | grind | omega | (trace_state; fail)
  | succ n ih =>
    intro i j  e0 e6 T X ht0 ht6  hj hi hn
    subst hj
    obtain ⟨x, hx⟩ : ∃ x, (l)[i]? = some x := ⟨(l)[i]'(by omega), List.getElem?_eq_getElem (by omega)⟩
    have hd := drop_get hx
    have hlt : (i : Int) < ((l).length : Int) := by omega
    have hlt2 : i < (l).length := by omega
    have hxe : (l)[i]'hlt2 = x := by rw [List.getElem?_eq_getElem hlt2] at hx; exact Option.some.inj hx
    have hw : IntKind.wrap .i64 ((i : Int) + 1) = (i : Int) + 1 := wrap64 (by omega) (by omega)
    have IH := fun e0 e6 T X ht0 ht6 => ih (i + 1) ((i : Int) + 1) e0 e6 T X ht0 ht6 rfl (by omega) (by omega)
    refine evK_loop c68_7 _ st _ _ rfl ?_
    simp (config := { contextual := true, maxSteps := 10000000, maxDischargeDepth := 6 }) [-Int.not_le, -Int.not_lt, -Nat.not_le, -Nat.not_lt, ty3, ty4, ty22, hm, hl, hr, E68, n68_6, ht0, ht6, hx, hxe, hd, hlt, hlt2, hw, IH]
    all_goals try simp (config := { contextual := true }) [-Int.not_le, -Int.not_lt, -Nat.not_le, -Nat.not_lt, hasI]
    all_goals first | done | grind | omega | (trace_state; fail)
set_option maxHeartbeats 4000000 in
theorem c68 (l : List Int) (n0 : Int)  (h_l : l.length < 4611686018427387904) (st : St) : EvF gS 68 [.slice (intVs l), .int .i64 n0] st = some (.ret (.bool (hasI l n0)) none, st) := by
  refine EvF_start fi230_eq (fun x h => by cases h) m68 ?_
  rw [st68]
  have hm : fi68.marks = [] := rfl
  have hl : fi68.locals = [] := rfl
  have hr : fi68.results = [.tmp 4] := rfl
  simp (config := { contextual := true, maxSteps := 10000000, maxDischargeDepth := 6 }) [-Int.not_le, -Int.not_lt, -Nat.not_le, -Nat.not_lt, ty3, ty4, ty22, hm, hl, hr, E68, n68_6, (fun e0 e6 T X ht0 ht6 => L68_6 l n0 h_l st _ 0 0  e0 e6 T X ht0 ht6 rfl (Nat.zero_le _) rfl), h_l]
  all_goals try simp (config := { contextual := true }) [-Int.not_le, -Int.not_lt, -Nat.not_le, -Nat.not_lt, hasI]
  all_goals first | done | grind | omega | (trace_state; fail)
theorem k68 (l : List Int) (n0 : Int)  (h_l : l.length < 4611686018427387904) (fr : Fr) (st : St) : callStep gS (EvF gS) 68 [.slice (intVs l), .int .i64 n0] fr st = some (.ok (retE none (.bool (hasI l n0))) fr st) :=
  call_pure rfl fi230_eq rfl (fun st => c68 l n0 h_l st) (by simp)
def fi39 : FI := { body := codeOf Try.f39, ntmps := 51, results := [.tmp 6], pers := [0, 1, 2, 6, 7, 9, 10, 11, 13, 16, 17, 18, 26, 27, 28], locals := [13], pure := true, marks := [1000000] }
theorem fi228_eq : gS.fn 39 = some fi39 := by kernel_rfl
theorem st39 (a0 a1 a2 : V) : startFr fi39 [a0, a1, a2] = { ps := [(0, .val a0), (1, .val a1), (2, .val a2), (6, .any), (7, .any), (9, .any), (10, .any), (11, .any), (13, .any), (16, .any), (17, .any), (18, .any), (26, .any), (27, .any), (28, .any)], ts := [], lc := [] } := rfl
def b39 : Code := mini (codeOf Try.f39)
def c39_41 : Code := codeN b39 23485643
def c39_40 : Code := .cond (.tmp 35) c39_41 .skip
def c39_38 : Code := .seq (codeN b39 10902731) c39_40
def c39_36 : Code := .seq (codeN b39 4611275) c39_38
def c39_43 : Code := codeN b39 1989835
def c39_34 : Code := .seq (.block 3 c39_36) c39_43
def c39_30 : Code := .seq (.cond (.tmp 29) .skip (.exit 2)) c39_34
def c39_28 : Code := .seq (codeN b39 285899) c39_30
def c39_27 : Code := .loop c39_28
def c39_26 : Code := .block 2 c39_27
def c39_24 : Code := .seq (codeN b39 40139) c39_26
def c39_44 : Code := codeN b39 31947
theorem e39_44 : evK gS fi39 c39_44 fr st k = opsR gS fi39 [mv 42 7 70,
 mv 43 9 3,
 mv 44 11 77,
 cal 45 69 [(.tmp 44)] [77] 77,
 op1 46 (.build 79 #[(0, (.tmp 43)), (1, (.tmp 45))]) 79,
 op1 47 (.buildSlice 70 1 #[(0, (.tmp 46))]) 70,
 op1 48 (.call { callee := (.builtin .append), args := #[(.tmp 42), (.tmp 47)], argTypes := #[70, 70] }) 70,
 asn 7 48 70] fr st k := evK_r 13 (by kernel_rfl)
def c39_23 : Code := .seq c39_24 c39_44
def c39_21 : Code := .seq (codeN b39 11467) c39_23
def c39_19 : Code := .seq (codeN b39 5323) c39_21
def c39_17 : Code := .seq (codeN b39 2251) c39_19
def c39_45 : Code := codeN b39 971
def c39_15 : Code := .seq (.block 1 c39_17) c39_45
def c39_11 : Code := .seq (.cond (.tmp 19) .skip (.exit 0)) c39_15
def c39_9 : Code := .seq (codeN b39 139) c39_11
def c39_8 : Code := .loop c39_9
def c39_7 : Code := .block 0 c39_8
def c39_5 : Code := .seq (codeN b39 19) c39_7
def c39_46 : Code := .seq (codeN b39 23) .ret
theorem e39_46 : evK gS fi39 c39_46 fr st k = opsR gS fi39 [mv 50 7 70,
 asn 6 50 70] fr st (.seq .ret k) := evK_rs 15 rfl (by kernel_rfl)
def c39_4 : Code := .seq c39_5 c39_46
def c39_2 : Code := .seq (codeN b39 5) c39_4
def c39_0 : Code := .seq (codeN b39 2) c39_2
theorem E39 : (evK gS fi39 c39_41 fr st k = opsR gS fi39 [mv 36 11 77,
 op1 37 (.fieldAddr 31 (.tmp 13) 3) 0,
 ld 38 29 37 29,
 op1 39 (.buildSlice 77 1 #[(0, (.tmp 38))]) 77,
 op1 40 (.call { callee := (.builtin .append), args := #[(.tmp 36), (.tmp 39)], argTypes := #[77, 77] }) 77,
 asn 11 40 77] fr st k) ∧
 evK gS fi39 c39_40 fr st k = condK gS fi39 (fr.op (.tmp 35)).bool? c39_41 .skip fr st k ∧
 (evK gS fi39 c39_38 fr st k = opsR gS fi39 [mv 32 10 22,
 op1 33 (.fieldAddr 31 (.tmp 13) 1) 0,
 ld 34 3 33 3,
 cal 35 68 [(.tmp 32), (.tmp 34)] [22, 3] 4] fr st (.seq c39_40 k)) ∧
 (evK gS fi39 c39_36 fr st k = opsR gS fi39 [ixa 30 26 26 28 0,
 ld 31 31 30 31,
 op1 13 (.alloc 31) 0,
 sto 31 13 31] fr st (.seq c39_38 k)) ∧
 (evK gS fi39 c39_43 fr st k = opsR gS fi39 [op1 41 (.binOp .add 3 (.tmp 28) (.const (.int .i64 1)) 3) 3,
 mv 28 41 3] fr st k) ∧
 evK gS fi39 c39_34 fr st k = evK gS fi39 c39_36 fr st (.blk 3 (.seq c39_43 k)) ∧
 evK gS fi39 c39_30 fr st k = condK gS fi39 (fr.op (.tmp 29)).bool? .skip (.exit 2) fr st (.seq c39_34 k) ∧
 evK gS fi39 c39_28 fr st k = opsR gS fi39 [bop 29 .lss 3 28 27 3 0] fr st (.seq c39_30 k) ∧
 evK gS fi39 c39_26 fr st k = evK gS fi39 c39_27 fr st (.blk 2 k) ∧
 (evK gS fi39 c39_24 fr st k = opsR gS fi39 [mv 26 1 26,
 len1 27 26 26 3,
 op1 28 (.move (.const (.int .i64 0))) 3] fr st (.seq c39_26 k)) ∧
 evK gS fi39 c39_23 fr st k = evK gS fi39 c39_24 fr st (.seq c39_44 k) ∧
 evK gS fi39 c39_21 fr st k = opsR gS fi39 [op1 11 (.assign (.const (.slice none 0 0))) 77] fr st (.seq c39_23 k) ∧
 (evK gS fi39 c39_19 fr st k = opsR gS fi39 [mv 22 0 22,
 mv 23 2 3,
 mv 24 9 3,
 cal 25 43 [(.tmp 22), (.tmp 23), (.tmp 24)] [22, 3, 3] 22,
 asn 10 25 22] fr st (.seq c39_21 k)) ∧
 (evK gS fi39 c39_17 fr st k = opsR gS fi39 [ixa 20 22 16 18 0,
 ld 21 3 20 3,
 asn 9 21 3] fr st (.seq c39_19 k)) ∧
 (evK gS fi39 c39_45 fr st k = opsR gS fi39 [op1 49 (.binOp .add 3 (.tmp 18) (.const (.int .i64 1)) 3) 3,
 mv 18 49 3] fr st k) ∧
 evK gS fi39 c39_15 fr st k = evK gS fi39 c39_17 fr st (.blk 1 (.seq c39_45 k)) ∧
 evK gS fi39 c39_11 fr st k = condK gS fi39 (fr.op (.tmp 19)).bool? .skip (.exit 0) fr st (.seq c39_15 k) ∧
 evK gS fi39 c39_9 fr st k = opsR gS fi39 [bop 19 .lss 3 18 17 3 0] fr st (.seq c39_11 k) ∧
 evK gS fi39 c39_7 fr st k = evK gS fi39 c39_8 fr st (.blk 0 k) ∧
 (evK gS fi39 c39_5 fr st k = opsR gS fi39 [mv 14 0 22,
 mv 15 2 3,
 cal 16 41 [(.tmp 14), (.tmp 15)] [22, 3] 22,
 len1 17 16 22 3,
 op1 18 (.move (.const (.int .i64 0))) 3] fr st (.seq c39_7 k)) ∧
 evK gS fi39 c39_4 fr st k = evK gS fi39 c39_5 fr st (.seq c39_46 k) ∧
 evK gS fi39 c39_2 fr st k = opsR gS fi39 [op1 7 (.assign (.const (.slice none 0 0))) 70] fr st (.seq c39_4 k) ∧
 evK gS fi39 c39_0 fr st k = opsR gS fi39 [op1 6 (.assign (.const (.slice none 0 0))) 70] fr st (.seq c39_2 k) := ⟨evK_r 11 (by kernel_rfl), rfl, evK_rs 10 rfl (by kernel_rfl), evK_rs 9 rfl (by kernel_rfl), evK_r 12 (by kernel_rfl), rfl, rfl, evK_rs 8 rfl (by kernel_rfl), rfl, evK_rs 7 rfl (by kernel_rfl), rfl, evK_rs 6 rfl (by kernel_rfl), evK_rs 5 rfl (by kernel_rfl), evK_rs 4 rfl (by kernel_rfl), evK_r 14 (by kernel_rfl), rfl, rfl, evK_rs 3 rfl (by kernel_rfl), rfl, evK_rs 2 rfl (by kernel_rfl), rfl, evK_rs 1 rfl (by kernel_rfl), evK_rs 0 rfl (by kernel_rfl)⟩
theorem m39 : mini fi39.body = c39_0 := by kernel_rfl
theorem n39_27 (fr : Fr) (st : St) (k : Kt) : nextK gS fi39 (.loop c39_28 k) .normal fr st = evK gS fi39 c39_27 fr st k := rfl
theorem n39_8 (fr : Fr) (st : St) (k : Kt) : nextK gS fi39 (.loop c39_9 k) .normal fr st = evK gS fi39 c39_8 fr st k := rfl
set_option maxHeartbeats 8000000 in
theorem LI8 (p : List Int) (hp7 : p.length < 1000) (l : List Sub) (hl1 : ∀ s ∈ l, PSm s.filter) (hl2 : l.length < 1000) (b : Int) (S : St) (R : Out × St) (sd ns : List Int) (t : Int) (io : Nat) (hsd : sd.length < 100000) (ko : Nat) (to : List Tbl) (fin : List (List Pred))
    (H : ∀ (e13 : E) (T : List (Nat × E)) (X : List (Nat × List V)), e13.Tame → evK gS fi39 c39_44 { ps := [(0, .val (.slice (intVs p))), (1, .val (.slice (encSubs l))), (2, .val (.int .i64 b)), (6, .own 0 []), (7, .own ko (encTbls to)), (9, .val (.int .i64 t)), (10, .val (.slice (intVs sd))), (11, .own (kof 1 fin) (encPredss fin)), (13, e13), (16, .val (.slice (intVs ns))), (17, .val (.int .i64 ns.length)), (18, .val (.int .i64 (io : Nat))), (26, .val (.slice (encSubs l))), (27, .val (.int .i64 l.length)), (28, .val (.int .i64 l.length))], ts := T, lc := X } S (.blk 1 (.seq c39_45 (.loop c39_9 (.blk 0 (.seq c39_46 .nil))))) = some R) :
    ∀ (m q : Nat) (out : List (List Pred)) (e13 : E) (T : List (Nat × E)) (X : List (Nat × List V)) (h13 : e13.Tame), q ≤ l.length → l.length - q = m → fin = wantG sd (l.drop q) out → out.length ≤ q →
    evK gS fi39 c39_27 { ps := [(0, .val (.slice (intVs p))), (1, .val (.slice (encSubs l))), (2, .val (.int .i64 b)), (6, .own 0 []), (7, .own ko (encTbls to)), (9, .val (.int .i64 t)), (10, .val (.slice (intVs sd))), (11, .own (kof 1 out) (encPredss out)), (13, e13), (16, .val (.slice (intVs ns))), (17, .val (.int .i64 ns.length)), (18, .val (.int .i64 (io : Nat))), (26, .val (.slice (encSubs l))), (27, .val (.int .i64 l.length)), (28, .val (.int .i64 (q : Nat)))], ts := T, lc := X } S (.blk 2 (.seq c39_44 (.blk 1 (.seq c39_45 (.loop c39_9 (.blk 0 (.seq c39_46 .nil))))))) = some R := by
  intro m
  have hm : fi39.marks = [1000000] := rfl
  have hl : fi39.locals = [13] := rfl
  have hr : fi39.results = [.tmp 6] := rfl
  induction m with
  | zero =>
    intro q out e13 T X h13 hq hm2 hf hol
    obtain rfl : q = l.length := by omega
    rw [List.drop_length] at hf
    have hf2 : fin = out := hf
    subst hf2
    refine evK_loop c39_28 _ _ _ _ rfl ?_
    rcases kof_or 1 fin with ⟨hk, rfl⟩ | hk
    · rw [hk, show encPredss [] = [] from rfl] at H ⊢
      simp [-Int.natCast_add, -St.obj, -St.set, h13, -Int.not_le, -Int.not_lt, -Nat.not_le, -Nat.not_lt, ty3, ty4, ty22, ty26, ty29, ty31, ty70, ty77, ty79, hm, hl, hr, E39, e39_46, n39_27, n39_8]
      exact H _ _ _ h13
    · rw [hk] at H ⊢
      simp [-Int.natCast_add, -St.obj, -St.set, h13, -Int.not_le, -Int.not_lt, -Nat.not_le, -Nat.not_lt, ty3, ty4, ty22, ty26, ty29, ty31, ty70, ty77, ty79, hm, hl, hr, E39, e39_46, n39_27, n39_8]
      exact H _ _ _ h13
  | succ m ih =>
    intro q out e13 T X h13 hq hm2 hf hol
    obtain ⟨x, hx⟩ : ∃ x, l[q]? = some x := ⟨l[q]'(by omega), List.getElem?_eq_getElem (by omega)⟩
    have hlt : (q : Int) < (l.length : Int) := by omega
    obtain ⟨hlt2, hxe⟩ := List.getElem?_eq_some_iff.1 hx
    have hw : IntKind.wrap .i64 ((q : Int) + 1) = ((q + 1 : Nat) : Int) := by rw [wrap64 (by omega) (by omega)]; omega
    rw [drop_get hx] at hf
    rw [show wantG sd (x :: l.drop (q + 1)) out = wantG sd (l.drop (q + 1)) (if hasI sd x.broker = true then out ++ [x.filter] else out) from rfl] at hf
    have kk := fun fr st => k68 sd x.broker (by omega) fr st
    have hs1 := sizes_predss out
    have hs2 := predss_snoc out x.filter
    have b1 : (out.length + 1) * 24 ≤ 140737488355328 := by omega
    have b2 : out.length + 1 ≤ 140737488355328 := by omega
    generalize hasI sd x.broker = z at *
    refine evK_loop c39_28 _ _ _ _ rfl ?_
    cases z with
    | true =>
      rw [if_pos rfl] at hf
      have IH := fun e13 T X h13 => ih (q + 1) (out ++ [x.filter]) e13 T X h13 (by omega) (by omega) hf (by simp; omega)
      rw [kof_snoc] at IH
      rcases kof_or 1 out with ⟨hk, rfl⟩ | hk
      · have en1 : encPredss ([] ++ [x.filter]) = [.slice (encPreds x.filter)] := rfl
        rw [en1] at IH
        rw [hk, show encPredss [] = [] from rfl]
        simp [-Int.natCast_add, h13, hx, hxe, hlt, hlt2, hw, kk, -Int.not_le, -Int.not_lt, -Nat.not_le, -Nat.not_lt, ty3, ty4, ty22, ty26, ty29, ty31, ty70, ty77, ty79, hm, hl, hr, E39, e39_44, e39_46, n39_27, n39_8]
        refine IH _ _ _ ?_
        all_goals simp [h13]
      · rw [hk]
        simp [-Int.natCast_add, -List.append_assoc, h13, hx, hxe, hlt, hlt2, hw, kk, hs1, hs2, b1, b2, -Int.not_le, -Int.not_lt, -Nat.not_le, -Nat.not_lt, ty3, ty4, ty22, ty26, ty29, ty31, ty70, ty77, ty79, hm, hl, hr, E39, e39_44, e39_46, n39_27, n39_8]
        refine IH _ _ _ ?_
        all_goals simp [h13]
    | false =>
      rw [if_neg (by simp)] at hf
      have IH := fun e13 T X h13 => ih (q + 1) out e13 T X h13 (by omega) (by omega) hf (by omega)
      rcases kof_or 1 out with ⟨hk, rfl⟩ | hk
      · rw [hk, show encPredss [] = [] from rfl] at IH ⊢
        simp [-Int.natCast_add, h13, hx, hxe, hlt, hlt2, hw, kk, -Int.not_le, -Int.not_lt, -Nat.not_le, -Nat.not_lt, ty3, ty4, ty22, ty26, ty29, ty31, ty70, ty77, ty79, hm, hl, hr, E39, e39_44, e39_46, n39_27, n39_8]
        refine IH _ _ _ ?_
        all_goals simp [h13]
      · rw [hk] at IH ⊢
        simp [-Int.natCast_add, h13, hx, hxe, hlt, hlt2, hw, kk, -Int.not_le, -Int.not_lt, -Nat.not_le, -Nat.not_lt, ty3, ty4, ty22, ty26, ty29, ty31, ty70, ty77, ty79, hm, hl, hr, E39, e39_44, e39_46, n39_27, n39_8]
        refine IH _ _ _ ?_
        all_goals simp [h13]
set_option maxHeartbeats 8000000 in
theorem LO8 (p : List Int) (hp7 : p.length < 1000) (l : List Sub) (hl1 : ∀ s ∈ l, PSm s.filter) (hl2 : l.length < 1000) (b : Int) (S : St) (R : Out × St) (ns : List Int) (hns : ns.length < 1000) (fin : List Tbl)
    (H : ∀ (e9 e10 e11 e13 e26 e27 e28 : E) (T : List (Nat × E)) (X : List (Nat × List V)), e9.Tame → e10.Tame → e11.Firm → e13.Tame → e26.Tame → e27.Tame → e28.Tame → evK gS fi39 c39_46 { ps := [(0, .val (.slice (intVs p))), (1, .val (.slice (encSubs l))), (2, .val (.int .i64 b)), (6, .own 0 []), (7, .own (kof 2 fin) (encTbls fin)), (9, e9), (10, e10), (11, e11), (13, e13), (16, .val (.slice (intVs ns))), (17, .val (.int .i64 ns.length)), (18, .val (.int .i64 ns.length)), (26, e26), (27, e27), (28, e28)], ts := T, lc := X } S .nil = some R) :
    ∀ (m q : Nat) (out : List Tbl) (e9 e10 e11 e13 e26 e27 e28 : E) (T : List (Nat × E)) (X : List (Nat × List V)) (h9 : e9.Tame) (h10 : e10.Tame) (h11 : e11.Firm) (h13 : e13.Tame) (h26 : e26.Tame) (h27 : e27.Tame) (h28 : e28.Tame), q ≤ ns.length → ns.length - q = m → fin = out ++ (ns.drop q).map (tabOf p l b) → out.length ≤ q →
    evK gS fi39 c39_8 { ps := [(0, .val (.slice (intVs p))), (1, .val (.slice (encSubs l))), (2, .val (.int .i64 b)), (6, .own 0 []), (7, .own (kof 2 out) (encTbls out)), (9, e9), (10, e10), (11, e11), (13, e13), (16, .val (.slice (intVs ns))), (17, .val (.int .i64 ns.length)), (18, .val (.int .i64 (q : Nat))), (26, e26), (27, e27), (28, e28)], ts := T, lc := X } S (.blk 0 (.seq c39_46 .nil)) = some R := by
  intro m
  have hm : fi39.marks = [1000000] := rfl
  have hl : fi39.locals = [13] := rfl
  have hr : fi39.results = [.tmp 6] := rfl
  induction m with
  | zero =>
    intro q out e9 e10 e11 e13 e26 e27 e28 T X h9 h10 h11 h13 h26 h27 h28 hq hm2 hf hol
    obtain rfl : q = ns.length := by omega
    rw [List.drop_length, List.map_nil, List.append_nil] at hf
    subst hf
    refine evK_loop c39_9 _ _ _ _ rfl ?_
    rcases kof_or 2 fin with ⟨hk, rfl⟩ | hk
    · rw [hk, show encTbls [] = [] from rfl] at H ⊢
      simp [-Int.natCast_add, -St.obj, -St.set, h9, h10, h11, h13, h26, h27, h28, -Int.not_le, -Int.not_lt, -Nat.not_le, -Nat.not_lt, ty3, ty4, ty22, ty26, ty29, ty31, ty70, ty77, ty79, hm, hl, hr, E39, e39_44, n39_27, n39_8]
      exact H _ _ _ _ _ _ _ _ _ h9 h10 h11 h13 h26 h27 h28
    · rw [hk] at H ⊢
      simp [-Int.natCast_add, -St.obj, -St.set, h9, h10, h11, h13, h26, h27, h28, -Int.not_le, -Int.not_lt, -Nat.not_le, -Nat.not_lt, ty3, ty4, ty22, ty26, ty29, ty31, ty70, ty77, ty79, hm, hl, hr, E39, e39_44, n39_27, n39_8]
      exact H _ _ _ _ _ _ _ _ _ h9 h10 h11 h13 h26 h27 h28
  | succ m ih =>
    intro q out e9 e10 e11 e13 e26 e27 e28 T X h9 h10 h11 h13 h26 h27 h28 hq hm2 hf hol
    obtain ⟨x, hx⟩ : ∃ x, ns[q]? = some x := ⟨ns[q]'(by omega), List.getElem?_eq_getElem (by omega)⟩
    have hlt : (q : Int) < (ns.length : Int) := by omega
    obtain ⟨hlt2, hxe⟩ := List.getElem?_eq_some_iff.1 hx
    have hw : IntKind.wrap .i64 ((q : Int) + 1) = ((q + 1 : Nat) : Int) := by rw [wrap64 (by omega) (by omega)]; omega
    rw [drop_get hx, List.map_cons, List.append_cons out (tabOf p l b x)] at hf
    have ks := fun fr st => k43 p hp7 b x fr st
    have hsl := sideT_len p b x
    have hwq := wantG_eq (sideT p b x) l []
    have hwm : ∀ f ∈ wantG (sideT p b x) l [], PSm f := fun f hf => by
      rw [hwq, List.nil_append] at hf
      unfold wantT at hf
      obtain ⟨s, hs, rfl⟩ := List.mem_map.1 hf
      exact hl1 s ((List.mem_filter.1 hs).1)
    have hwl : (wantG (sideT p b x) l []).length ≤ 1000000 := by
      rw [hwq, List.nil_append]
      unfold wantT
      rw [List.length_map]
      have := List.length_filter_le (fun s : Sub => hasI (sideT p b x) s.broker) l
      omega
    have kr := fun fr st => k69 (wantG (sideT p b x) l []) hwm hwl fr st
    have hto : tabOf p l b x = ⟨x, freduce (wantG (sideT p b x) l [])⟩ := rfl
    rw [hto] at hf
    generalize hwt : wantG (sideT p b x) l [] = wt at *
    generalize freduce wt = fr0 at *
    have IH := fun e9 e10 e11 e13 e26 e27 e28 T X h9 h10 h11 h13 h26 h27 h28 => ih (q + 1) (out ++ [⟨x, fr0⟩]) e9 e10 e11 e13 e26 e27 e28 T X h9 h10 h11 h13 h26 h27 h28 (by omega) (by omega) hf (by simp; omega)
    rw [kof_snoc] at IH
    have hs1 := sizes_tbls out
    have hs2 := tbls_snoc out ⟨x, fr0⟩
    have b1 : (out.length + 1) * 32 ≤ 140737488355328 := by omega
    have b2 : out.length + 1 ≤ 140737488355328 := by omega
    have H44 : ∀ (e13 : E) (T : List (Nat × E)) (X : List (Nat × List V)), e13.Tame → evK gS fi39 c39_44 { ps := [(0, .val (.slice (intVs p))), (1, .val (.slice (encSubs l))), (2, .val (.int .i64 b)), (6, .own 0 []), (7, .own (kof 2 out) (encTbls out)), (9, .val (.int .i64 x)), (10, .val (.slice (intVs (sideT p b x)))), (11, .own (kof 1 wt) (encPredss wt)), (13, e13), (16, .val (.slice (intVs ns))), (17, .val (.int .i64 ns.length)), (18, .val (.int .i64 (q : Nat))), (26, .val (.slice (encSubs l))), (27, .val (.int .i64 l.length)), (28, .val (.int .i64 l.length))], ts := T, lc := X } S (.blk 1 (.seq c39_45 (.loop c39_9 (.blk 0 (.seq c39_46 .nil))))) = some R := by
      intro e13 T X h13
      have hk1 : ∀ T : List (Nat × E), True := fun _ => trivial
      rcases kof_or 1 wt with ⟨hkw, hwn⟩ | hkw
      · subst hwn
        rw [hkw, show encPredss [] = [] from rfl]
        rw [show encPredss [] = [] from rfl] at kr
        rcases kof_or 2 out with ⟨hk, rfl⟩ | hk
        · have en1 : encTbls ([] ++ [⟨x, fr0⟩]) = [.agg [.int .i64 x, .slice (encPredss fr0)]] := rfl
          rw [en1] at IH
          rw [hk, show encTbls [] = [] from rfl]
          simp [-Int.natCast_add, h13, hw, kr, -Int.not_le, -Int.not_lt, -Nat.not_le, -Nat.not_lt, ty3, ty4, ty22, ty26, ty29, ty31, ty70, ty77, ty79, hm, hl, hr, E39, e39_44, e39_46, n39_27, n39_8]
          exact IH _ _ _ _ _ _ _ _ _ (tame_val _) (tame_val _) rfl h13 (tame_val _) (tame_val _) (tame_val _)
        · rw [hk]
          simp [-Int.natCast_add, -List.append_assoc, h13, hw, kr, hs1, hs2, b1, b2, -Int.not_le, -Int.not_lt, -Nat.not_le, -Nat.not_lt, ty3, ty4, ty22, ty26, ty29, ty31, ty70, ty77, ty79, hm, hl, hr, E39, e39_44, e39_46, n39_27, n39_8]
          exact IH _ _ _ _ _ _ _ _ _ (tame_val _) (tame_val _) rfl h13 (tame_val _) (tame_val _) (tame_val _)
      · rw [hkw]
        rcases kof_or 2 out with ⟨hk, rfl⟩ | hk
        · have en1 : encTbls ([] ++ [⟨x, fr0⟩]) = [.agg [.int .i64 x, .slice (encPredss fr0)]] := rfl
          rw [en1] at IH
          rw [hk, show encTbls [] = [] from rfl]
          simp [-Int.natCast_add, h13, hw, kr, -Int.not_le, -Int.not_lt, -Nat.not_le, -Nat.not_lt, ty3, ty4, ty22, ty26, ty29, ty31, ty70, ty77, ty79, hm, hl, hr, E39, e39_44, e39_46, n39_27, n39_8]
          exact IH _ _ _ _ _ _ _ _ _ (tame_val _) (tame_val _) rfl h13 (tame_val _) (tame_val _) (tame_val _)
        · rw [hk]
          simp [-Int.natCast_add, -List.append_assoc, h13, hw, kr, hs1, hs2, b1, b2, -Int.not_le, -Int.not_lt, -Nat.not_le, -Nat.not_lt, ty3, ty4, ty22, ty26, ty29, ty31, ty70, ty77, ty79, hm, hl, hr, E39, e39_44, e39_46, n39_27, n39_8]
          exact IH _ _ _ _ _ _ _ _ _ (tame_val _) (tame_val _) rfl h13 (tame_val _) (tame_val _) (tame_val _)
    have LI := fun e13 T X h13 => LI8 p hp7 l hl1 hl2 b S R (sideT p b x) ns x q (by omega) (kof 2 out) out wt H44 l.length 0 [] e13 T X h13 (Nat.zero_le _) rfl hwt.symm (Nat.le_refl _)
    rw [show ((0 : Nat) : Int) = 0 from rfl] at LI
    rw [show kof 1 ([] : List (List Pred)) = 0 from rfl, show encPredss [] = [] from rfl] at LI
    refine evK_loop c39_9 _ _ _ _ rfl ?_
    simp [-Int.natCast_add, h9, h10, h11, h13, h26, h27, h28, hx, hxe, hlt, hlt2, ks, -Int.not_le, -Int.not_lt, -Nat.not_le, -Nat.not_lt, ty3, ty4, ty22, ty26, ty29, ty31, ty70, ty77, ty79, hm, hl, hr, E39, e39_44, e39_46, n39_27, n39_8]
    exact LI _ _ _ h13
set_option maxHeartbeats 8000000 in
theorem c39 (p : List Int) (hp7 : p.length < 900) (l : List Sub) (hl1 : ∀ s ∈ l, PSm s.filter) (hl2 : l.length < 1000) (b : Int) (S : St) : EvF gS 39 [.slice (intVs p), .slice (encSubs l), .int .i64 b] S = some (.ret (.slice (encTbls (tablesT p l b))) none, S) := by
  refine EvF_start fi228_eq (fun x h => by cases h) m39 ?_
  rw [st39]
  have hm : fi39.marks = [1000000] := rfl
  have hl : fi39.locals = [13] := rfl
  have hr : fi39.results = [.tmp 6] := rfl
  have hz := fun xs st => frz_slice (xs := encTbls xs) (flats_tbls xs) st
  have hz0 := hz [] S
  rw [show encTbls [] = [] from rfl] at hz0
  have kn := fun fr st => k41 p (by omega) b fr st
  have hnl := nearT_len p b
  unfold tablesT
  generalize nearT p b = ns at *
  generalize hK : ns.map (tabOf p l b) = K
  generalize hR : (Out.ret (V.slice (encTbls K)) none, S) = R
  have hp7' : p.length < 1000 := by omega
  have H46 : ∀ (e9 e10 e11 e13 e26 e27 e28 : E) (T : List (Nat × E)) (X : List (Nat × List V)), e9.Tame → e10.Tame → e11.Firm → e13.Tame → e26.Tame → e27.Tame → e28.Tame → evK gS fi39 c39_46 { ps := [(0, .val (.slice (intVs p))), (1, .val (.slice (encSubs l))), (2, .val (.int .i64 b)), (6, .own 0 []), (7, .own (kof 2 K) (encTbls K)), (9, e9), (10, e10), (11, e11), (13, e13), (16, .val (.slice (intVs ns))), (17, .val (.int .i64 ns.length)), (18, .val (.int .i64 ns.length)), (26, e26), (27, e27), (28, e28)], ts := T, lc := X } S .nil = some R := by
    intro e9 e10 e11 e13 e26 e27 e28 T X h9 h10 h11 h13 h26 h27 h28
    rcases kof_or 2 K with ⟨hk, rfl⟩ | hk
    · rw [hk, show encTbls [] = [] from rfl]
      simp [-Int.natCast_add, h9, h10, h11, h13, h26, h27, h28, hz0, ← hR, show encTbls [] = [] from rfl, -Int.not_le, -Int.not_lt, -Nat.not_le, -Nat.not_lt, ty3, ty4, ty22, ty26, ty29, ty31, ty70, ty77, ty79, hm, hl, hr, E39, e39_44, e39_46, n39_27, n39_8]
    · rw [hk]
      simp [-Int.natCast_add, h9, h10, h11, h13, h26, h27, h28, hz, ← hR, -Int.not_le, -Int.not_lt, -Nat.not_le, -Nat.not_lt, ty3, ty4, ty22, ty26, ty29, ty31, ty70, ty77, ty79, hm, hl, hr, E39, e39_44, e39_46, n39_27, n39_8]
  have LL := fun e9 e10 e11 e13 e26 e27 e28 T X h9 h10 h11 h13 h26 h27 h28 => LO8 p hp7' l hl1 hl2 b S R ns (by omega) K H46 ns.length 0 [] e9 e10 e11 e13 e26 e27 e28 T X h9 h10 h11 h13 h26 h27 h28 (Nat.zero_le _) rfl (by rw [List.drop_zero, List.nil_append]; exact hK.symm) (Nat.le_refl _)
  rw [show ((0 : Nat) : Int) = 0 from rfl] at LL
  rw [show kof 2 ([] : List Tbl) = 0 from rfl, show encTbls [] = [] from rfl] at LL
  simp [kn, -Int.not_le, -Int.not_lt, -Nat.not_le, -Nat.not_lt, ty3, ty4, ty22, ty26, ty29, ty31, ty70, ty77, ty79, hm, hl, hr, E39, e39_44, e39_46, n39_27, n39_8]
  refine LL _ _ _ _ _ _ _ _ _ ?_ ?_ ?_ ?_ ?_ ?_ ?_
  all_goals simp
theorem k39 (p : List Int) (hp7 : p.length < 900) (l : List Sub) (hl1 : ∀ s ∈ l, PSm s.filter) (hl2 : l.length < 1000) (b : Int) (fr : Fr) (st : St) : callStep gS (EvF gS) 39 [.slice (intVs p), .slice (encSubs l), .int .i64 b] fr st = some (.ok (.val (.slice (encTbls (tablesT p l b)))) fr st) :=
  call_pure rfl fi228_eq rfl (fun st => c39 p hp7 l hl1 hl2 b st) (by simp [V.flat])
end
end Go.Proofs.Ytdoobejjedpcgaa
namespace Go.Proofs.Ytdoobejjedpcgaa
open Go Go.Ab
set_option linter.unusedVariables false
set_option linter.unusedSimpArgs false
set_option linter.unnecessarySimpa false
set_option maxRecDepth 20000
noncomputable section
variable (fr : Fr) (st : St) (k : Kt)
def fi42 : FI := { body := codeOf Try.f42, ntmps := 2, results := [.tmp 0], pers := [0], locals := [], pure := true, marks := [] }
theorem fi226_eq : gS.fn 42 = some fi42 := by kernel_rfl
theorem x42 : gS.ext 42 = none := rfl
theorem p42 : fi42.pure = true := rfl
theorem k42 (fr : Fr) (st : St) : callStep gS (EvF gS) 42 [] fr st = some (.ok (.val (.bool true)) fr st) := by
  have hc : EvF gS 42 [] ⟨[], 0⟩ = some (.ret (.bool true) none, ⟨[], 0⟩) := Evn.lim ⟨400, fun n hn => by
    obtain ⟨m, rfl⟩ : ∃ m, n = m + 400 := ⟨n - 400, by omega⟩
    kernel_rfl⟩
  exact call_pure' rfl fi226_eq rfl rfl ⟨_, hc⟩ rfl
end
end Go.Proofs.Ytdoobejjedpcgaa
namespace Go.Ab
open Go
set_option linter.unusedVariables false
set_option linter.unusedSimpArgs false
set_option linter.unnecessarySimpa false
/-- All atoms so far are of pairs ahead of one. -/
def before (a b : Nat) (l : List Atom) : Prop := ∀ x ∈ l, x.a < (a : Int) ∨ (x.a = (a : Int) ∧ x.b < (b : Int))
end Go.Ab
namespace Go.Ab
open Go
set_option linter.unusedVariables false
set_option linter.unusedSimpArgs false
set_option linter.unnecessarySimpa false
/-- Where a feed stands behind so many rows of attributes. -/
def aJ (l : List Int) : Nat → Nat
  | 0 => 0
  | q + 1 => (attrsV l 0 (aJ l q)).2
theorem aJ_le (l : List Int) : ∀ q, aJ l q ≤ 15 * q
  | 0 => Nat.le_refl _
  | q + 1 => by
    have h1 := aJ_le l q
    have h2 := attrsV_asks l 0 (aJ l q)
    unfold aJ; omega
end Go.Ab
namespace Go.Ab
open Go
set_option linter.unusedVariables false
set_option linter.unusedSimpArgs false
set_option linter.unnecessarySimpa false
theorem fstep_sub {row : List (List Pred)} {f g : List Pred} (h : g ∈ fstep row f) : g ∈ row ∨ g = f := by
  unfold fstep at h
  split at h
  · exact .inl h
  · rcases List.mem_append.1 h with h | h
    · exact .inl ((List.mem_filter.1 h).1)
    · exact .inr (by simpa using h)
theorem freduce_sub : ∀ (l row : List (List Pred)) (g : List Pred), g ∈ l.foldl fstep row → g ∈ row ∨ g ∈ l
  | [], _, _, h => .inl h
  | f :: r, row, g, h => by
    rw [List.foldl_cons] at h
    rcases freduce_sub r _ g h with h | h
    · rcases fstep_sub h with h | rfl
      · exact .inl h
      · exact .inr (by simp)
    · exact .inr (by simp [h])
theorem freduce_mem {l : List (List Pred)} {g : List Pred} (h : g ∈ freduce l) : g ∈ l := by
  rcases freduce_sub l [] g h with h | h
  · simp at h
  · exact h
theorem fstep_len2 (row : List (List Pred)) (f : List Pred) : (fstep row f).length ≤ row.length + 1 := by
  unfold fstep
  split
  · omega
  · have := List.length_filter_le (fun g => !fcovers f g) row
    simp only [List.length_append, List.length_singleton]; omega
theorem freduce_len : ∀ (l row : List (List Pred)), (l.foldl fstep row).length ≤ row.length + l.length
  | [], _ => Nat.le_refl _
  | f :: r, row => by
    have h1 := freduce_len r (fstep row f)
    have h2 := fstep_len2 row f
    simp only [List.foldl_cons, List.length_cons]; omega
/-- One broker of a side, one subscription. -/
def jStep (s : Sub) (A : List Attr) (b : Bool) (y : Int) : Bool := b || (decide (s.broker = y) && ftakes s.filter A)
theorem j_fold (s : Sub) (A : List Attr) : ∀ (sd : List Int) (b : Bool), sd.foldl (jStep s A) b = (b || (hasI sd s.broker && ftakes s.filter A))
  | [], b => by simp [hasI]
  | y :: r, b => by
    rw [List.foldl_cons, j_fold s A r]
    unfold jStep
    rw [show hasI (y :: r) s.broker = if y = s.broker then true else hasI r s.broker from rfl]
    by_cases h : y = s.broker
    · subst h; cases b <;> cases ftakes s.filter A <;> simp
    · have h2 : ¬ s.broker = y := fun e => h e.symm
      simp [h, h2]
def kStep (sd : List Int) (A : List Attr) (b : Bool) (s : Sub) : Bool := sd.foldl (jStep s A) b
theorem k_fold (sd : List Int) (A : List Attr) : ∀ (xs : List Sub) (b : Bool), xs.foldl (kStep sd A) b = (b || fany (wantT sd xs) A)
  | [], b => by simp [wantT, fany]
  | s :: r, b => by
    rw [List.foldl_cons, k_fold sd A r]
    unfold kStep
    rw [j_fold]
    unfold wantT fany
    rw [List.filter_cons]
    cases hasI sd s.broker <;> simp [Bool.or_assoc]
/-- What a table takes is what the subscriptions behind it take. -/
theorem tab_any {p : List Int} {l : List Sub} (hl : ∀ s ∈ l, FF s.filter) {A : List Attr} (hA : AFV A) (b n : Int) : fany (tabOf p l b n).fs A = l.foldl (kStep (sideT p b n) A) false := by
  rw [k_fold, Bool.false_or]
  unfold tabOf
  simp only
  rw [wantG_eq, List.nil_append]
  unfold freduce
  rw [freduce_any hA _ [] (by simp) (fun g hg => ?_)]
  · simp [fany]
  · unfold wantT at hg
    obtain ⟨s, hs, rfl⟩ := List.mem_map.1 hg
    exact hl s ((List.mem_filter.1 hs).1)
theorem tab_more {p : List Int} {l : List Sub} {s : Sub} (hl : ∀ x ∈ l ++ [s], FF x.filter) {A : List Attr} (hA : AFV A) (b n : Int) (h : fany (tabOf p l b n).fs A = true) : fany (tabOf p (l ++ [s]) b n).fs A = true := by
  rw [tab_any (fun x hx => hl x (by simp [hx])) hA] at h
  rw [tab_any hl hA, List.foldl_append, h]
  show kStep (sideT p b n) A true s = true
  unfold kStep
  rw [j_fold]; rfl
theorem tab_fs {p : List Int} {l : List Sub} {Q : List Pred → Prop} (hl : ∀ s ∈ l, Q s.filter) (b n : Int) : ∀ f ∈ (tabOf p l b n).fs, Q f := fun f hf => by
  have := freduce_mem hf
  rw [wantG_eq, List.nil_append] at this
  unfold wantT at this
  obtain ⟨s, hs, rfl⟩ := List.mem_map.1 this
  exact hl s ((List.mem_filter.1 hs).1)
theorem tab_len {p : List Int} {l : List Sub} (b n : Int) : (tabOf p l b n).fs.length ≤ l.length := by
  have h1 := freduce_len (wantG (sideT p b n) l []) []
  have h2 : (wantG (sideT p b n) l []).length ≤ l.length := by
    rw [wantG_eq, List.nil_append]
    unfold wantT
    rw [List.length_map]
    exact List.length_filter_le _ _
  show (freduce (wantG (sideT p b n) l [])).length ≤ l.length
  unfold freduce
  simp at h1; omega
end Go.Ab
