/- No two groups have one filter; each Sub's client is in the group of its filter, and nobody is in a group without a Sub. Part 5. -/
import Derived.Test.YtclpbfkbpcjejaaK4
namespace Go.Proofs.Ytclpbfkbpcjejaa
open Go Go.Ab
set_option linter.unusedVariables false
set_option linter.unusedSimpArgs false
set_option linter.unnecessarySimpa false
set_option maxRecDepth 20000
noncomputable section
variable (fr : Fr) (st : St) (k : Kt)
def fi51 : FI := { body := codeOf Try.f51, ntmps := 25, results := [.tmp 2], pers := [0, 2, 3, 4, 5], locals := [5], pure := true, marks := [] }
theorem fi51_eq : gS.fn 51 = some fi51 := by kernel_rfl
theorem st51 (a0 : V) : startFr fi51 [a0] = { ps := [(0, .val a0), (2, .any), (3, .any), (4, .any), (5, .any)], ts := [], lc := [] } := rfl
def b51 : Code := mini (codeOf Try.f51)
def c51_12 : Code := .cond (.tmp 9) .skip (.exit 0)
def c51_10 : Code := .seq (codeN b51 267) c51_12
def c51_21 : Code := codeN b51 3659
def c51_19 : Code := .seq (codeN b51 2635) c51_21
def c51_17 : Code := .seq (codeN b51 1099) c51_19
def c51_22 : Code := codeN b51 459
def c51_15 : Code := .seq (.block 1 c51_17) c51_22
def c51_9 : Code := .seq c51_10 c51_15
def c51_8 : Code := .loop c51_9
def c51_7 : Code := .block 0 c51_8
def c51_5 : Code := .seq (codeN b51 19) c51_7
def c51_23 : Code := .seq (codeN b51 23) .ret
def c51_4 : Code := .seq c51_5 c51_23
def c51_2 : Code := .seq (codeN b51 5) c51_4
def c51_0 : Code := .seq (codeN b51 2) c51_2
theorem E51 : evK gS fi51 c51_12 fr st k = condK gS fi51 (fr.op (.tmp 9)).bool? .skip (.exit 0) fr st k ∧
 (evK gS fi51 c51_10 fr st k = opsR gS fi51 [mv 6 4 3,
 mv 7 0 49,
 len1 8 7 49 3,
 bop 9 .lss 3 6 8 3 4] fr st (.seq c51_12 k)) ∧
 (evK gS fi51 c51_21 fr st k = opsR gS fi51 [mv 20 3 49,
 ld 21 27 5 27,
 op1 22 (.buildSlice 49 1 #[(0, (.tmp 21))]) 49,
 op1 23 (.call { callee := (.builtin .append), args := #[(.tmp 20), (.tmp 22)], argTypes := #[49, 49] }) 49,
 asn 3 23 49] fr st k) ∧
 (evK gS fi51 c51_19 fr st k = opsR gS fi51 [op1 16 (.fieldAddr 27 (.tmp 5) 4) 0,
 ld 17 25 16 25,
 op1 18 (.call { callee := (.builtin .append), args := #[(.const (.slice none 0 0)), (.tmp 17)], argTypes := #[25, 25] }) 25,
 op1 19 (.fieldAddr 27 (.tmp 5) 4) 0,
 sto 25 19 18] fr st (.seq c51_21 k)) ∧
 (evK gS fi51 c51_17 fr st k = opsR gS fi51 [mv 12 0 49,
 mv 13 4 3,
 ixa 14 49 12 13 0,
 ld 15 27 14 27,
 op1 5 (.alloc 27) 0,
 sto 27 5 15] fr st (.seq c51_19 k)) ∧
 (evK gS fi51 c51_22 fr st k = opsR gS fi51 [mv 10 4 3,
 op1 11 (.binOp .add 3 (.tmp 10) (.const (.int .i64 1)) 3) 3,
 asn 4 11 3] fr st k) ∧
 evK gS fi51 c51_15 fr st k = evK gS fi51 c51_17 fr st (.blk 1 (.seq c51_22 k)) ∧
 evK gS fi51 c51_9 fr st k = evK gS fi51 c51_10 fr st (.seq c51_15 k) ∧
 evK gS fi51 c51_7 fr st k = evK gS fi51 c51_8 fr st (.blk 0 k) ∧
 evK gS fi51 c51_5 fr st k = opsR gS fi51 [op1 4 (.assign (.const (.int .i64 0))) 3] fr st (.seq c51_7 k) ∧
 (evK gS fi51 c51_23 fr st k = opsR gS fi51 [mv 24 3 49,
 asn 2 24 49] fr st (.seq .ret k)) ∧
 evK gS fi51 c51_4 fr st k = evK gS fi51 c51_5 fr st (.seq c51_23 k) ∧
 evK gS fi51 c51_2 fr st k = opsR gS fi51 [op1 3 (.assign (.const (.slice none 0 0))) 49] fr st (.seq c51_4 k) ∧
 evK gS fi51 c51_0 fr st k = opsR gS fi51 [op1 2 (.assign (.const (.slice none 0 0))) 49] fr st (.seq c51_2 k) := ⟨rfl, evK_rs 3 rfl (by kernel_rfl), evK_r 7 (by kernel_rfl), evK_rs 6 rfl (by kernel_rfl), evK_rs 5 rfl (by kernel_rfl), evK_r 4 (by kernel_rfl), rfl, rfl, rfl, evK_rs 2 rfl (by kernel_rfl), evK_rs 8 rfl (by kernel_rfl), rfl, evK_rs 1 rfl (by kernel_rfl), evK_rs 0 rfl (by kernel_rfl)⟩
theorem m51 : mini fi51.body = c51_0 := by kernel_rfl
theorem n51_8 (fr : Fr) (st : St) (k : Kt) : nextK gS fi51 (.loop c51_9 k) .normal fr st = evK gS fi51 c51_8 fr st k := rfl
theorem preds_snoc (l : List Pred) (x : Pred) : encPreds l ++ [.agg [.str x.name, .int .i64 x.test, .int .i64 x.v.kind, .int .i64 x.v.n, .float .f64 x.v.x, .str x.v.s, .bool x.v.b, .int .i64 x.w.kind, .int .i64 x.w.n, .float .f64 x.w.x, .str x.w.s, .bool x.w.b, .slice (encVals x.set)]] = encPreds (l ++ [x]) := by simp [encPreds]
/-- How much room a row's cells take that was laid one by one. -/
def kof {α : Type} (k : Nat) (l : List α) : Nat := if l = [] then 0 else k
set_option maxHeartbeats 8000000 in
theorem L51 (f : List Pred) (h_f : PSm f) (st : St) : ∀ (n i : Nat) (e5 : E) (T : List (Nat × E)) (X : List (Nat × List V)) (ht5 : e5.Tame), i ≤ f.length → f.length - i = n →
    evK gS fi51 c51_8 { ps := [(0, .val (.slice (encPreds f))), (2, .own 0 []), (3, .own (kof 13 (f.take i)) (encPreds (f.take i))), (4, .val (.int .i64 i)), (5, e5)], ts := T, lc := X } st (.blk 0 (.seq c51_23 .nil)) = some (.ret (.slice (encPreds f)) (some (kof 13 f)), st) := by
  intro n
  have hm : fi51.marks = [] := rfl
  have hl : fi51.locals = [5] := rfl
  have hr : fi51.results = [.tmp 2] := rfl
  have hfl := h_f.1
  induction n with
  | zero =>
    intro i e5 T X ht5 hi hn
    obtain rfl : i = f.length := by omega
    refine evK_loop c51_9 _ _ _ _ rfl ?_
    rw [List.take_length]
    by_cases hfe : f = []
    · subst hfe
      simp [ht5, kof, encPreds, -Int.not_le, -Int.not_lt, -Nat.not_le, -Nat.not_lt, ty3, ty4, ty25, ty27, ty49, hm, hl, hr, E51, n51_8]
    · have hk : kof 13 f = 13 := by unfold kof; rw [if_neg hfe]
      rw [hk]
      simp [ht5, -Int.not_le, -Int.not_lt, -Nat.not_le, -Nat.not_lt, ty3, ty4, ty25, ty27, ty49, hm, hl, hr, E51, n51_8]
  | succ n ih =>
    intro i e5 T X ht5 hi hn
    obtain ⟨x, hx⟩ : ∃ x, f[i]? = some x := ⟨f[i]'(by omega), List.getElem?_eq_getElem (by omega)⟩
    have hlt : (i : Int) < (f.length : Int) := by omega
    have hlt2 : i < f.length := by omega
    have hxe : f[i]'hlt2 = x := by rw [List.getElem?_eq_getElem hlt2] at hx; exact Option.some.inj hx
    have hw : IntKind.wrap .i64 ((i : Int) + 1) = ((i + 1 : Nat) : Int) := by rw [wrap64 (by omega) (by omega)]; omega
    have hxs := (h_f.2 x (List.mem_of_getElem? hx)).2
    have hxs2 : x.set.length ≤ 140737488355328 := by omega
    have htk : f.take (i + 1) = f.take i ++ [x] := by rw [List.take_succ_eq_append_getElem hlt2, hxe]
    have IH := fun e5 T X ht5 => ih (i + 1) e5 T X ht5 (by omega) (by omega)
    have hk1 : kof 13 (f.take (i + 1)) = 13 := by rw [htk]; simp [kof]
    rw [hk1, htk] at IH
    have hsv := sizes_vals x.set
    have hsp := sizes_preds (f.take i)
    have hsn := preds_snoc (f.take i) x
    have hln : (f.take i).length = i := by simp; omega
    have b1 : (i + 1) * 144 ≤ 140737488355328 := by omega
    have b2 : i + 1 ≤ 140737488355328 := by omega
    have hk0 : kof 13 (f.take i) = 0 ∧ f.take i = [] ∨ kof 13 (f.take i) = 13 := by
      unfold kof; split
      · exact .inl ⟨rfl, by assumption⟩
      · exact .inr rfl
    refine evK_loop c51_9 _ _ _ _ rfl ?_
    generalize hF : f.take i = F at *
    rcases hk0 with ⟨h1, h2⟩ | h1
    · rw [h1, h2]
      rw [h2] at IH
      have hi0 : i = 0 := by rw [← hln, h2]; rfl
      have hsn0 : encPreds [x] = [.agg [.str x.name, .int .i64 x.test, .int .i64 x.v.kind, .int .i64 x.v.n, .float .f64 x.v.x, .str x.v.s, .bool x.v.b, .int .i64 x.w.kind, .int .i64 x.w.n, .float .f64 x.w.x, .str x.w.s, .bool x.w.b, .slice (encVals x.set)]] := rfl
      rw [List.nil_append, hsn0] at IH
      have en : encPreds [] = [] := rfl
      simp [-Int.natCast_add, en, ht5, hx, hxe, hlt, hlt2, hw, hxs, hxs2, hsv, -Int.not_le, -Int.not_lt, -Nat.not_le, -Nat.not_lt, ty3, ty4, ty25, ty27, ty49, hm, hl, hr, E51, n51_8]
      exact IH _ _ _ rfl
    · rw [h1]
      simp [-Int.natCast_add, ht5, hx, hxe, hlt, hlt2, hw, hxs, hxs2, hsv, hsp, hsn, hln, b1, b2, IH, -Int.not_le, -Int.not_lt, -Nat.not_le, -Nat.not_lt, ty3, ty4, ty25, ty27, ty49, hm, hl, hr, E51, n51_8]
set_option maxHeartbeats 8000000 in
theorem c51 (f : List Pred) (h_f : PSm f) (st : St) : EvF gS 51 [.slice (encPreds f)] st = some (.ret (.slice (encPreds f)) (some (kof 13 f)), st) := by
  refine EvF_start fi51_eq (fun x h => by cases h) m51 ?_
  rw [st51]
  have hm : fi51.marks = [] := rfl
  have hl : fi51.locals = [5] := rfl
  have hr : fi51.results = [.tmp 2] := rfl
  have L0 := fun e5 T X ht5 => L51 f h_f st f.length 0 e5 T X ht5 (Nat.zero_le _) rfl
  simp only [show ((0 : Nat) : Int) = 0 from rfl, List.take_zero, show kof 13 ([] : List Pred) = 0 from rfl, show encPreds [] = [] from rfl] at L0
  simp [L0, -Int.not_le, -Int.not_lt, -Nat.not_le, -Nat.not_lt, ty3, ty4, ty25, ty27, ty49, hm, hl, hr, E51, n51_8]
theorem k51 (f : List Pred) (h_f : PSm f) (fr : Fr) (st : St) : callStep gS (EvF gS) 51 [.slice (encPreds f)] fr st = some (.ok (.own (kof 13 f) (encPreds f)) fr st) :=
  call_pure rfl fi51_eq rfl (fun st => c51 f h_f st) (by simp [V.flat])
theorem psm_right {f : List Pred} (h : ∀ p ∈ f, pright p = true) (hl : f.length ≤ 1000000) : PSm f := by
  refine ⟨hl, fun p hp => ?_⟩
  have hr := h p hp
  refine ⟨(ok_of_right hr).1, ?_⟩
  unfold pright at hr
  split at hr
  · repeat' split at hr
    all_goals first
      | (simp only [Bool.and_eq_true, decide_eq_true_eq] at hr; omega)
      | cases hr
  · cases hr
theorem psm_ffv {f : List Pred} (h : FFV f ∧ f.length ≤ 3) : PSm f := psm_right h.1.right (by omega)
theorem kof_snoc {α : Type} (k : Nat) (l : List α) (x : α) : kof k (l ++ [x]) = k := by unfold kof; rw [if_neg (by simp)]
theorem kof_or {α : Type} (k : Nat) (l : List α) : kof k l = 0 ∧ l = [] ∨ kof k l = k := by
  unfold kof; split
  · exact .inl ⟨rfl, by assumption⟩
  · exact .inr rfl
theorem frz_slice {xs : List V} (h : flats xs = true) (st : St) : frz 6 st (.slice xs) = some (.slice xs, st) := frz_flat 6 st _ (by simpa [V.flat] using h)
def fi95 : FI := { body := codeOf Try.f95, ntmps := 46, results := [.tmp 4], pers := [0, 1, 4, 5, 6], locals := [], pure := true, marks := [1000000] }
theorem fi95_eq : gS.fn 95 = some fi95 := by kernel_rfl
theorem st95 (a0 a1 : V) : startFr fi95 [a0, a1] = { ps := [(0, .val a0), (1, .val a1), (4, .any), (5, .any), (6, .any)], ts := [], lc := [] } := rfl
def b95 : Code := mini (codeOf Try.f95)
def c95_10 : Code := .cond (.tmp 18) .skip (.exit 0)
def c95_8 : Code := .seq (codeN b95 131) c95_10
def c95_14 : Code := codeN b95 163
def c95_13 : Code := .block 1 c95_14
def c95_7 : Code := .seq c95_8 c95_13
def c95_6 : Code := .loop c95_7
def c95_19 : Code := .seq (codeN b95 151) .ret
def c95_18 : Code := .cond (.tmp 32) c95_19 .skip
def c95_16 : Code := .seq (codeN b95 39) c95_18
def r95_26 : Array Oper := regOps (codeN (codeOf Try.f95) 95)
def c95_26 : Code := .region 7 r95_26 true
def q95_26 : List (Oper × Fl) := [(mv 38 6 28, ⟨true, false, true, false, false, false, true, true, false, false, []⟩),
 (mv 39 1 3, ⟨true, false, true, false, false, false, true, true, false, false, []⟩),
 (op1 40 (.buildSlice 28 1 #[(0, (.tmp 39))]) 28, ⟨true, false, true, false, false, false, true, true, false, false, []⟩),
 (op1 41 (.call { callee := (.builtin .append), args := #[(.tmp 38), (.tmp 40)], argTypes := #[28, 28] }) 28, ⟨false, true, true, false, false, true, true, true, false, false, []⟩),
 (mv 42 0 28, ⟨true, false, false, false, false, false, true, false, false, false, []⟩),
 (mv 43 5 3, ⟨true, false, false, false, true, false, true, false, false, false, []⟩),
 (op1 44 (.slice 28 (.tmp 42) (some (.tmp 43)) none none) 28, ⟨true, false, false, false, true, false, true, false, false, false, []⟩),
 (op1 45 (.call { callee := (.builtin .append), args := #[(.tmp 41), (.tmp 44)], argTypes := #[28, 28] }) 28, ⟨false, true, true, false, true, true, true, true, false, false, []⟩),
 (asn 4 45 28, ⟨true, true, true, false, true, false, true, true, false, false, []⟩)]
def c95_25 : Code := .seq c95_26 .ret
def c95_23 : Code := .seq (codeN b95 47) c95_25
def c95_15 : Code := .seq c95_16 c95_23
theorem e95_15 : evK gS fi95 c95_15 fr st k = evK gS fi95 c95_16 fr st (.seq c95_23 k) := rfl
def c95_4 : Code := .seq (.block 0 c95_6) c95_15
def c95_2 : Code := .seq (codeN b95 5) c95_4
def c95_0 : Code := .seq (codeN b95 2) c95_2
theorem E95 : evK gS fi95 c95_10 fr st k = condK gS fi95 (fr.op (.tmp 18)).bool? .skip (.exit 0) fr st k ∧
 (evK gS fi95 c95_8 fr st k = opsR gS fi95 [mv 7 5 3,
 mv 8 0 28,
 len1 9 8 28 3,
 bop 10 .lss 3 7 9 3 4,
 mv 11 10 4,
 mk (some 12) (.move (.tmp 0)) 28 (some (4, true)),
 mk (some 13) (.move (.tmp 5)) 3 (some (4, true)),
 mk (some 14) (.indexAddr 28 (.tmp 12) (.tmp 13)) 0 (some (4, true)),
 mk (some 15) (.load 3 (.tmp 14)) 3 (some (4, true)),
 mk (some 16) (.move (.tmp 1)) 3 (some (4, true)),
 mk (some 17) (.binOp .lss 3 (.tmp 15) (.tmp 16) 3) 4 (some (4, true)),
 op1 18 (.pick (.tmp 11) (.tmp 17) (.const (.bool false))) 4] fr st (.seq c95_10 k)) ∧
 (evK gS fi95 c95_14 fr st k = opsR gS fi95 [mv 19 5 3,
 op1 20 (.binOp .add 3 (.tmp 19) (.const (.int .i64 1)) 3) 3,
 asn 5 20 3] fr st k) ∧
 evK gS fi95 c95_13 fr st k = evK gS fi95 c95_14 fr st (.blk 1 k) ∧
 evK gS fi95 c95_7 fr st k = evK gS fi95 c95_8 fr st (.seq c95_13 k) ∧
 (evK gS fi95 c95_19 fr st k = opsR gS fi95 [mv 33 0 28,
 asn 4 33 28] fr st (.seq .ret k)) ∧
 evK gS fi95 c95_18 fr st k = condK gS fi95 (fr.op (.tmp 32)).bool? c95_19 .skip fr st k ∧
 (evK gS fi95 c95_16 fr st k = opsR gS fi95 [mv 21 5 3,
 mv 22 0 28,
 len1 23 22 28 3,
 bop 24 .lss 3 21 23 3 4,
 mv 25 24 4,
 mk (some 26) (.move (.tmp 0)) 28 (some (4, true)),
 mk (some 27) (.move (.tmp 5)) 3 (some (4, true)),
 mk (some 28) (.indexAddr 28 (.tmp 26) (.tmp 27)) 0 (some (4, true)),
 mk (some 29) (.load 3 (.tmp 28)) 3 (some (4, true)),
 mk (some 30) (.move (.tmp 1)) 3 (some (4, true)),
 mk (some 31) (.binOp .eql 3 (.tmp 29) (.tmp 30) 3) 4 (some (4, true)),
 op1 32 (.pick (.tmp 25) (.tmp 31) (.const (.bool false))) 4] fr st (.seq c95_18 k)) ∧
 evK gS fi95 c95_26 fr st k = drwR gS fi95 r95_26 q95_26 fr st k ∧
 evK gS fi95 c95_25 fr st k = evK gS fi95 c95_26 fr st (.seq .ret k) ∧
 (evK gS fi95 c95_23 fr st k = opsR gS fi95 [mv 34 0 28,
 mv 35 5 3,
 op1 36 (.slice 28 (.tmp 34) none (some (.tmp 35)) none) 28,
 op1 37 (.call { callee := (.builtin .append), args := #[(.const (.slice none 0 0)), (.tmp 36)], argTypes := #[28, 28] }) 28,
 asn 6 37 28] fr st (.seq c95_25 k)) ∧
 evK gS fi95 c95_4 fr st k = evK gS fi95 c95_6 fr st (.blk 0 (.seq c95_15 k)) ∧
 evK gS fi95 c95_2 fr st k = opsR gS fi95 [op1 5 (.assign (.const (.int .i64 0))) 3] fr st (.seq c95_4 k) ∧
 evK gS fi95 c95_0 fr st k = opsR gS fi95 [op1 4 (.assign (.const (.slice none 0 0))) 28] fr st (.seq c95_2 k) := ⟨rfl, evK_rs 2 rfl (by kernel_rfl), evK_r 3 (by kernel_rfl), rfl, rfl, evK_rs 5 rfl (by kernel_rfl), rfl, evK_rs 4 rfl (by kernel_rfl), evK_dr 7 rfl (by kernel_rfl) (by kernel_rfl), rfl, evK_rs 6 rfl (by kernel_rfl), rfl, evK_rs 1 rfl (by kernel_rfl), evK_rs 0 rfl (by kernel_rfl)⟩
theorem m95 : mini fi95.body = c95_0 := by kernel_rfl
theorem n95_6 (fr : Fr) (st : St) (k : Kt) : nextK gS fi95 (.loop c95_7 k) .normal fr st = evK gS fi95 c95_6 fr st k := rfl
theorem bl1 : borOk r95_26 0 6 38 = true := by kernel_rfl
theorem bl2 : handOk r95_26 8 45 = true := by kernel_rfl
set_option maxHeartbeats 8000000 in
theorem L95 (l : List Int) (hl1 : l.length < 1000000) (n0 : Int) (st : St) (X : List (Nat × List V)) (R : Out × St)
    (H : ∀ T, evK gS fi95 c95_15 { ps := [(0, .val (.slice (intVs l))), (1, .val (.int .i64 n0)), (4, .own 0 []), (5, .val (.int .i64 (posI l n0 : Nat))), (6, .any)], ts := T, lc := X } st .nil = some R) :
    ∀ (m i : Nat) (T : List (Nat × E)), i ≤ posI l n0 → posI l n0 - i = m → evK gS fi95 c95_6 { ps := [(0, .val (.slice (intVs l))), (1, .val (.int .i64 n0)), (4, .own 0 []), (5, .val (.int .i64 (i : Nat))), (6, .any)], ts := T, lc := X } st (.blk 0 (.seq c95_15 .nil)) = some R := by
  intro m
  have hm : fi95.marks = [1000000] := rfl
  have hl : fi95.locals = [] := rfl
  have hr : fi95.results = [.tmp 4] := rfl
  have hpl := posI_le l n0
  induction m with
  | zero =>
    intro i T hi hm2
    obtain rfl : i = posI l n0 := by omega
    refine evK_loop c95_7 _ _ _ _ rfl ?_
    cases hx : l[posI l n0]? with
    | none =>
      have h1 : ¬ ((posI l n0 : Nat) : Int) < (l.length : Int) := by rw [List.getElem?_eq_none_iff] at hx; omega
      simp [-Int.natCast_add, h1, H, -Int.not_le, -Int.not_lt, -Nat.not_le, -Nat.not_lt, ty3, ty4, ty28, hm, hl, hr, E95, q95_26, n95_6]
    | some x =>
      obtain ⟨h2, h3⟩ := List.getElem?_eq_some_iff.1 hx
      have h1 : ((posI l n0 : Nat) : Int) < (l.length : Int) := by omega
      have h4 := posI_ge l n0 x hx
      simp [-Int.natCast_add, h1, h2, h3, h4, hx, H, -Int.not_le, -Int.not_lt, -Nat.not_le, -Nat.not_lt, ty3, ty4, ty28, hm, hl, hr, E95, q95_26, n95_6]
  | succ m ih =>
    intro i T hi hm2
    have h2 : i < l.length := by omega
    obtain ⟨x, hx⟩ : ∃ x, l[i]? = some x := ⟨l[i]'h2, List.getElem?_eq_getElem h2⟩
    have h3 : l[i]'h2 = x := (List.getElem?_eq_some_iff.1 hx).2
    have h1 : (i : Int) < (l.length : Int) := by omega
    have h4 := posI_lt l n0 i x (by omega) hx
    have hw : IntKind.wrap .i64 ((i : Int) + 1) = ((i + 1 : Nat) : Int) := by rw [wrap64 (by omega) (by omega)]; omega
    have IH := fun T => ih (i + 1) T (by omega) (by omega)
    refine evK_loop c95_7 _ _ _ _ rfl ?_
    simp [-Int.natCast_add, h1, h2, h3, h4, hx, hw, IH, -Int.not_le, -Int.not_lt, -Nat.not_le, -Nat.not_lt, ty3, ty4, ty28, hm, hl, hr, E95, q95_26, n95_6]
set_option maxHeartbeats 8000000 in
theorem c95 (l : List Int) (hl1 : l.length < 1000000) (n0 : Int) (st : St) : EvF gS 95 [.slice (intVs l), .int .i64 n0] st = some (.ret (.slice (intVs (layI l n0))) none, st) := by
  refine EvF_start fi95_eq (fun x h => by cases h) m95 ?_
  rw [st95]
  have hm : fi95.marks = [1000000] := rfl
  have hl : fi95.locals = [] := rfl
  have hr : fi95.results = [.tmp 4] := rfl
  have hpl := posI_le l n0
  have hz := fun xs st => frz_slice (xs := intVs xs) (flats_ints xs) st
  generalize hR : (Out.ret (V.slice (intVs (layI l n0))) none, st) = R
  have LL := fun X H T => L95 l hl1 n0 st X R H (posI l n0) 0 T (Nat.zero_le _) rfl
  rw [show ((0 : Nat) : Int) = 0 from rfl] at LL
  simp [-Int.natCast_add, -Int.not_le, -Int.not_lt, -Nat.not_le, -Nat.not_lt, ty3, ty4, ty28, hm, hl, hr, E95, q95_26, e95_15, n95_6, bl1, bl2]
  refine LL _ (fun T => ?_) _
  clear LL
  subst hR
  rw [layI_eq]
  generalize posI l n0 = p at *
  have hp0 : (0 : Int) ≤ (p : Int) := by omega
  have hp1 : (p : Int) ≤ (l.length : Int) := by omega
  have hsi := sizes_ints
  have e0 : (intVs l).take l.length = intVs l := List.take_of_length_le (by simp)
  have e1 := ints_take l p
  have e2 := ints_drop l p
  have e3 := ints_snoc (l.take p) n0
  have e4 := ints_append (l.take p ++ [n0]) (l.drop p)
  have e5 : (l.drop p).length = l.length - p := by simp
  have e6 : (l.take p).length = p := by simp; omega
  have b1 : p * 8 ≤ 140737488355328 := by omega
  have b2 : p ≤ 140737488355328 := by omega
  have b3 : (p + 1) * 8 ≤ 140737488355328 := by omega
  have b4 : p + 1 ≤ 140737488355328 := by omega
  have b5 : (p + 1 + (l.length - p)) * 8 ≤ 140737488355328 := by omega
  have b6 : p + 1 + (l.length - p) ≤ 140737488355328 := by omega
  cases hx : l[p]? with
  | none =>
    have h1 : ¬ (p : Int) < (l.length : Int) := by rw [List.getElem?_eq_none_iff] at hx; omega
    simp [-Int.natCast_add, -List.append_assoc, h1, hz, hp0, hp1, hsi, e0, e1, e2, e3, e4, e5, e6, b1, b2, b3, b4, b5, b6, -Int.not_le, -Int.not_lt, -Nat.not_le, -Nat.not_lt, ty3, ty4, ty28, hm, hl, hr, E95, q95_26, e95_15, n95_6, bl1, bl2]
  | some x =>
    obtain ⟨h2, h3⟩ := List.getElem?_eq_some_iff.1 hx
    have h1 : (p : Int) < (l.length : Int) := by omega
    by_cases h4 : x = n0
    · subst h4
      simp [-Int.natCast_add, h1, h2, h3, hx, hz, -Int.not_le, -Int.not_lt, -Nat.not_le, -Nat.not_lt, ty3, ty4, ty28, hm, hl, hr, E95, q95_26, e95_15, n95_6, bl1, bl2]
    · simp [-Int.natCast_add, -List.append_assoc, h1, h2, h3, h4, hx, hz, hp0, hp1, hsi, e0, e1, e2, e3, e4, e5, e6, b1, b2, b3, b4, b5, b6, -Int.not_le, -Int.not_lt, -Nat.not_le, -Nat.not_lt, ty3, ty4, ty28, hm, hl, hr, E95, q95_26, e95_15, n95_6, bl1, bl2]
theorem k95 (l : List Int) (hl1 : l.length < 1000000) (n0 : Int) (fr : Fr) (st : St) : callStep gS (EvF gS) 95 [.slice (intVs l), .int .i64 n0] fr st = some (.ok (.val (.slice (intVs (layI l n0)))) fr st) :=
  call_pure rfl fi95_eq rfl (fun st => c95 l hl1 n0 st) (by simp [V.flat])
def fi98 : FI := { body := codeOf Try.f98, ntmps := 17, results := [.tmp 4], pers := [0, 1, 4, 6, 7, 8, 9], locals := [], pure := true, marks := [] }
theorem fi98_eq : gS.fn 98 = some fi98 := by kernel_rfl
theorem st98 (a0 a1 : V) : startFr fi98 [a0, a1] = { ps := [(0, .val a0), (1, .val a1), (4, .any), (6, .any), (7, .any), (8, .any), (9, .any)], ts := [], lc := [] } := rfl
def b98 : Code := mini (codeOf Try.f98)
def c98_20 : Code := .seq (codeN b98 9829) .ret
def c98_19 : Code := .cond (.tmp 15) c98_20 .skip
def c98_17 : Code := .seq (codeN b98 2661) c98_19
def c98_15 : Code := .seq (codeN b98 1125) c98_17
def c98_24 : Code := codeN b98 485
def c98_13 : Code := .seq (.block 1 c98_15) c98_24
def c98_9 : Code := .seq (.cond (.tmp 10) .skip (.exit 0)) c98_13
def c98_7 : Code := .seq (codeN b98 69) c98_9
def c98_6 : Code := .loop c98_7
def c98_5 : Code := .block 0 c98_6
def c98_3 : Code := .seq (codeN b98 9) c98_5
def c98_25 : Code := .seq (codeN b98 11) .ret
def c98_2 : Code := .seq c98_3 c98_25
def c98_0 : Code := .seq (codeN b98 2) c98_2
theorem E98 : evK gS fi98 c98_20 fr st k = opsR gS fi98 [op1 4 (.assign (.const (.bool true))) 4] fr st (.seq .ret k) ∧
 evK gS fi98 c98_19 fr st k = condK gS fi98 (fr.op (.tmp 15)).bool? c98_20 .skip fr st k ∧
 (evK gS fi98 c98_17 fr st k = opsR gS fi98 [mv 13 6 3,
 mv 14 1 3,
 bop 15 .eql 3 13 14 3 4] fr st (.seq c98_19 k)) ∧
 (evK gS fi98 c98_15 fr st k = opsR gS fi98 [ixa 11 28 7 9 0,
 ld 12 3 11 3,
 asn 6 12 3] fr st (.seq c98_17 k)) ∧
 (evK gS fi98 c98_24 fr st k = opsR gS fi98 [op1 16 (.binOp .add 3 (.tmp 9) (.const (.int .i64 1)) 3) 3,
 mv 9 16 3] fr st k) ∧
 evK gS fi98 c98_13 fr st k = evK gS fi98 c98_15 fr st (.blk 1 (.seq c98_24 k)) ∧
 evK gS fi98 c98_9 fr st k = condK gS fi98 (fr.op (.tmp 10)).bool? .skip (.exit 0) fr st (.seq c98_13 k) ∧
 evK gS fi98 c98_7 fr st k = opsR gS fi98 [bop 10 .lss 3 9 8 3 0] fr st (.seq c98_9 k) ∧
 evK gS fi98 c98_5 fr st k = evK gS fi98 c98_6 fr st (.blk 0 k) ∧
 (evK gS fi98 c98_3 fr st k = opsR gS fi98 [mv 7 0 28,
 len1 8 7 28 3,
 op1 9 (.move (.const (.int .i64 0))) 3] fr st (.seq c98_5 k)) ∧
 evK gS fi98 c98_25 fr st k = opsR gS fi98 [op1 4 (.assign (.const (.bool false))) 4] fr st (.seq .ret k) ∧
 evK gS fi98 c98_2 fr st k = evK gS fi98 c98_3 fr st (.seq c98_25 k) ∧
 evK gS fi98 c98_0 fr st k = opsR gS fi98 [op1 4 (.assign (.const (.bool false))) 4] fr st (.seq c98_2 k) := ⟨evK_rs 5 rfl (by kernel_rfl), rfl, evK_rs 4 rfl (by kernel_rfl), evK_rs 3 rfl (by kernel_rfl), evK_r 6 (by kernel_rfl), rfl, rfl, evK_rs 2 rfl (by kernel_rfl), rfl, evK_rs 1 rfl (by kernel_rfl), evK_rs 7 rfl (by kernel_rfl), rfl, evK_rs 0 rfl (by kernel_rfl)⟩
theorem m98 : mini fi98.body = c98_0 := by kernel_rfl
theorem n98_6 (fr : Fr) (st : St) (k : Kt) : nextK gS fi98 (.loop c98_7 k) .normal fr st = evK gS fi98 c98_6 fr st k := rfl
set_option maxHeartbeats 4000000 in
theorem L98_6 (l : List Int) (n0 : Int) (h_l : l.length < 4611686018427387904) (st : St) : ∀ (n i : Nat) (j : Int)  (e0 e6 : E) (T : List (Nat × E)) (X : List (Nat × List V)) (ht0 : e0.Tame) (ht6 : e6.Tame) , j = (i : Int) → i ≤ (l).length → (l).length - i = n →
    evK gS fi98 c98_6 { ps := [(0, e0), (1, .val (.int .i64 n0)), (4, .val (.bool false)), (6, e6), (7, .val (.slice (intVs l))), (8, .val (.int .i64 l.length)), (9, .val (.int .i64 j))], ts := T, lc := X } st (.blk 0 (.seq c98_25 .nil)) = some ((.ret (.bool (hasI (l.drop i) n0)) none), st) := by
  intro n
  have hm : fi98.marks = [] := rfl
  have hl : fi98.locals = [] := rfl
  have hr : fi98.results = [.tmp 4] := rfl
  induction n with
  | zero =>
    intro i j  e0 e6 T X ht0 ht6  hj hi hn
    obtain rfl : i = (l).length := by omega
    subst hj
    refine evK_loop c98_7 _ st _ _ rfl ?_
    simp (config := { contextual := true, maxSteps := 10000000, maxDischargeDepth := 6 }) [-Int.not_le, -Int.not_lt, -Nat.not_le, -Nat.not_lt, ty3, ty4, ty28, hm, hl, hr, E98, n98_6, ht0, ht6]
    all_goals try simp (config := { contextual := true }) [-Int.not_le, -Int.not_lt, -Nat.not_le, -Nat.not_lt, hasI]
    all_goals first | done | grind | omega | (trace_state; fail)
  | succ n ih =>
    intro i j  e0 e6 T X ht0 ht6  hj hi hn
    subst hj
    obtain ⟨x, hx⟩ : ∃ x, (l)[i]? = some x := ⟨(l)[i]'(by omega), List.getElem?_eq_getElem (by omega)⟩
    have hd := drop_get hx
    have hlt : (i : Int) < ((l).length : Int) := by omega
    have hlt2 : i < (l).length := by omega
    have hxe : (l)[i]'hlt2 = x := by rw [List.getElem?_eq_getElem hlt2] at hx; exact Option.some.inj hx
    have hw : IntKind.wrap .i64 ((i : Int) + 1) = (i : Int) + 1 := wrap64 (by omega) (by omega)
    have IH := fun e0 e6 T X ht0 ht6 => ih (i + 1) ((i : Int) + 1) e0 e6 T X ht0 ht6 rfl (by omega) (by omega)
    refine evK_loop c98_7 _ st _ _ rfl ?_
    simp (config := { contextual := true, maxSteps := 10000000, maxDischargeDepth := 6 }) [-Int.not_le, -Int.not_lt, -Nat.not_le, -Nat.not_lt, ty3, ty4, ty28, hm, hl, hr, E98, n98_6, ht0, ht6, hx, hxe, hd, hlt, hlt2, hw, IH]
    all_goals try simp (config := { contextual := true }) [-Int.not_le, -Int.not_lt, -Nat.not_le, -Nat.not_lt, hasI]
    all_goals first | done | grind | omega | (trace_state; fail)
set_option maxHeartbeats 4000000 in
theorem c98 (l : List Int) (n0 : Int)  (h_l : l.length < 4611686018427387904) (st : St) : EvF gS 98 [.slice (intVs l), .int .i64 n0] st = some (.ret (.bool (hasI l n0)) none, st) := by
  refine EvF_start fi98_eq (fun x h => by cases h) m98 ?_
  rw [st98]
  have hm : fi98.marks = [] := rfl
  have hl : fi98.locals = [] := rfl
  have hr : fi98.results = [.tmp 4] := rfl
  simp (config := { contextual := true, maxSteps := 10000000, maxDischargeDepth := 6 }) [-Int.not_le, -Int.not_lt, -Nat.not_le, -Nat.not_lt, ty3, ty4, ty28, hm, hl, hr, E98, n98_6, (fun e0 e6 T X ht0 ht6 => L98_6 l n0 h_l st _ 0 0  e0 e6 T X ht0 ht6 rfl (Nat.zero_le _) rfl), h_l]
  all_goals try simp (config := { contextual := true }) [-Int.not_le, -Int.not_lt, -Nat.not_le, -Nat.not_lt, hasI]
  all_goals first | done | grind | omega | (trace_state; fail)
theorem k98 (l : List Int) (n0 : Int)  (h_l : l.length < 4611686018427387904) (fr : Fr) (st : St) : callStep gS (EvF gS) 98 [.slice (intVs l), .int .i64 n0] fr st = some (.ok (retE none (.bool (hasI l n0))) fr st) :=
  call_pure rfl fi98_eq rfl (fun st => c98 l n0 h_l st) (by simp)
def fi64 : FI := { body := codeOf Try.f64, ntmps := 25, results := [.tmp 4], pers := [0, 1, 4, 5, 6, 7, 8, 9, 10], locals := [7], pure := true, marks := [1000000] }
theorem fi64_eq : gS.fn 64 = some fi64 := by kernel_rfl
theorem st64 (a0 a1 : V) : startFr fi64 [a0, a1] = { ps := [(0, .val a0), (1, .val a1), (4, .any), (5, .any), (6, .any), (7, .any), (8, .any), (9, .any), (10, .any)], ts := [], lc := [] } := rfl
def b64 : Code := mini (codeOf Try.f64)
def c64_22 : Code := codeN b64 11467
def c64_21 : Code := .cond (.tmp 18) c64_22 .skip
def c64_19 : Code := .seq (codeN b64 5323) c64_21
def c64_17 : Code := .seq (codeN b64 2251) c64_19
def c64_24 : Code := codeN b64 971
def c64_15 : Code := .seq (.block 1 c64_17) c64_24
def c64_11 : Code := .seq (.cond (.tmp 11) .skip (.exit 0)) c64_15
def c64_9 : Code := .seq (codeN b64 139) c64_11
def c64_8 : Code := .loop c64_9
def c64_7 : Code := .block 0 c64_8
def c64_5 : Code := .seq (codeN b64 19) c64_7
def c64_25 : Code := .seq (codeN b64 23) .ret
def c64_4 : Code := .seq c64_5 c64_25
def c64_2 : Code := .seq (codeN b64 5) c64_4
def c64_0 : Code := .seq (codeN b64 2) c64_2
theorem E64 : (evK gS fi64 c64_22 fr st k = opsR gS fi64 [mv 19 5 28,
 mv 20 6 3,
 op1 21 (.buildSlice 28 1 #[(0, (.tmp 20))]) 28,
 op1 22 (.call { callee := (.builtin .append), args := #[(.tmp 19), (.tmp 21)], argTypes := #[28, 28] }) 28,
 asn 5 22 28] fr st k) ∧
 evK gS fi64 c64_21 fr st k = condK gS fi64 (fr.op (.tmp 18)).bool? c64_22 .skip fr st k ∧
 (evK gS fi64 c64_19 fr st k = opsR gS fi64 [op1 15 (.fieldAddr 76 (.tmp 7) 1) 0,
 ld 16 28 15 28,
 mv 17 1 3,
 cal 18 98 [(.tmp 16), (.tmp 17)] [28, 3] 4] fr st (.seq c64_21 k)) ∧
 (evK gS fi64 c64_17 fr st k = opsR gS fi64 [mv 12 10 3,
 ixa 13 71 8 10 0,
 ld 14 76 13 76,
 op1 7 (.alloc 76) 0,
 asn 6 12 3,
 sto 76 7 14] fr st (.seq c64_19 k)) ∧
 (evK gS fi64 c64_24 fr st k = opsR gS fi64 [op1 23 (.binOp .add 3 (.tmp 10) (.const (.int .i64 1)) 3) 3,
 mv 10 23 3] fr st k) ∧
 evK gS fi64 c64_15 fr st k = evK gS fi64 c64_17 fr st (.blk 1 (.seq c64_24 k)) ∧
 evK gS fi64 c64_11 fr st k = condK gS fi64 (fr.op (.tmp 11)).bool? .skip (.exit 0) fr st (.seq c64_15 k) ∧
 evK gS fi64 c64_9 fr st k = opsR gS fi64 [bop 11 .lss 3 10 9 3 0] fr st (.seq c64_11 k) ∧
 evK gS fi64 c64_7 fr st k = evK gS fi64 c64_8 fr st (.blk 0 k) ∧
 (evK gS fi64 c64_5 fr st k = opsR gS fi64 [mv 8 0 71,
 len1 9 8 71 3,
 op1 10 (.move (.const (.int .i64 0))) 3] fr st (.seq c64_7 k)) ∧
 (evK gS fi64 c64_25 fr st k = opsR gS fi64 [mv 24 5 28,
 asn 4 24 28] fr st (.seq .ret k)) ∧
 evK gS fi64 c64_4 fr st k = evK gS fi64 c64_5 fr st (.seq c64_25 k) ∧
 evK gS fi64 c64_2 fr st k = opsR gS fi64 [op1 5 (.assign (.const (.slice none 0 0))) 28] fr st (.seq c64_4 k) ∧
 evK gS fi64 c64_0 fr st k = opsR gS fi64 [op1 4 (.assign (.const (.slice none 0 0))) 28] fr st (.seq c64_2 k) := ⟨evK_r 6 (by kernel_rfl), rfl, evK_rs 5 rfl (by kernel_rfl), evK_rs 4 rfl (by kernel_rfl), evK_r 7 (by kernel_rfl), rfl, rfl, evK_rs 3 rfl (by kernel_rfl), rfl, evK_rs 2 rfl (by kernel_rfl), evK_rs 8 rfl (by kernel_rfl), rfl, evK_rs 1 rfl (by kernel_rfl), evK_rs 0 rfl (by kernel_rfl)⟩
theorem m64 : mini fi64.body = c64_0 := by kernel_rfl
theorem n64_8 (fr : Fr) (st : St) (k : Kt) : nextK gS fi64 (.loop c64_9 k) .normal fr st = evK gS fi64 c64_8 fr st k := rfl
set_option maxHeartbeats 8000000 in
theorem L64 (g : List Grp) (hg : ∀ x ∈ g, POk x.filter ∧ x.clients.length < 1000) (hgl : g.length < 1000000) (c0 : Int) (st : St) : ∀ (m i : Nat) (out : List Int) (e0 e6 e7 : E) (T : List (Nat × E)) (X : List (Nat × List V)) (h0 : e0.Tame) (h6 : e6.Tame) (h7 : e7.Tame), i ≤ g.length → g.length - i = m → out.length ≤ i →
    evK gS fi64 c64_8 { ps := [(0, e0), (1, .val (.int .i64 c0)), (4, .own 0 []), (5, .own (kof 1 out) (intVs out)), (6, e6), (7, e7), (8, .val (.slice (encGrps g))), (9, .val (.int .i64 g.length)), (10, .val (.int .i64 (i : Nat)))], ts := T, lc := X } st (.blk 0 (.seq c64_25 .nil)) = some (.ret (.slice (intVs (mineG c0 i (g.drop i) out))) none, st) := by
  intro m
  have hm : fi64.marks = [1000000] := rfl
  have hl : fi64.locals = [7] := rfl
  have hr : fi64.results = [.tmp 4] := rfl
  have hz := fun xs st => frz_slice (xs := intVs xs) (flats_ints xs) st
  induction m with
  | zero =>
    intro i out e0 e6 e7 T X h0 h6 h7 hi hm2 ho
    obtain rfl : i = g.length := by omega
    rw [List.drop_length]
    refine evK_loop c64_9 _ _ _ _ rfl ?_
    rcases kof_or 1 out with ⟨hk, rfl⟩ | hk
    · have en : intVs [] = [] := rfl
      have hz0 := hz [] st
      rw [en] at hz0
      rw [hk, en]
      simp [h0, h6, h7, hz0, matchG, mineG, en, -Int.not_le, -Int.not_lt, -Nat.not_le, -Nat.not_lt, ty3, ty4, ty28, ty71, ty76, hm, hl, hr, E64, n64_8]
    · rw [hk]
      simp [h0, h6, h7, hz, matchG, mineG, -Int.not_le, -Int.not_lt, -Nat.not_le, -Nat.not_lt, ty3, ty4, ty28, ty71, ty76, hm, hl, hr, E64, n64_8]
  | succ m ih =>
    intro i out e0 e6 e7 T X h0 h6 h7 hi hm2 ho
    obtain ⟨x, hx⟩ : ∃ x, g[i]? = some x := ⟨g[i]'(by omega), List.getElem?_eq_getElem (by omega)⟩
    have hd := drop_get hx
    have hlt : (i : Int) < (g.length : Int) := by omega
    obtain ⟨hlt2, hxe⟩ := List.getElem?_eq_some_iff.1 hx
    have hw : IntKind.wrap .i64 ((i : Int) + 1) = ((i + 1 : Nat) : Int) := by rw [wrap64 (by omega) (by omega)]; omega
    have hxg := hg x (List.mem_of_getElem? hx)
    rw [hd]
    refine evK_loop c64_9 _ _ _ _ rfl ?_
    have kk : ∀ (fr : Fr) (st : St), callStep gS (EvF gS) 98 [.slice (intVs x.clients), .int .i64 c0] fr st = some (.ok (.val (.bool (hasI x.clients c0))) fr st) := fun fr st => k98 x.clients c0 (by have := hxg.2; omega) fr st
    cases hb : hasI x.clients c0 with
    | false =>
      have IH := fun e0 e6 e7 T X h0 h6 h7 => ih (i + 1) out e0 e6 e7 T X h0 h6 h7 (by omega) (by omega) (by omega)
      rw [show mineG c0 i (x :: g.drop (i + 1)) out = mineG c0 (i + 1) (g.drop (i + 1)) out from by simp [matchG, mineG, hb]]
      rw [hb] at kk
      rcases kof_or 1 out with ⟨hk, rfl⟩ | hk
      · have en : intVs [] = [] := rfl
        rw [hk, en] at IH ⊢
        simp [-Int.natCast_add, h0, h6, h7, hx, hxe, hlt, hlt2, hw, kk, -Int.not_le, -Int.not_lt, -Nat.not_le, -Nat.not_lt, ty3, ty4, ty28, ty71, ty76, hm, hl, hr, E64, n64_8]
        refine IH _ _ _ _ _ ?_ ?_ ?_
        all_goals simp [h0, h6, h7]
      · rw [hk] at IH ⊢
        simp [-Int.natCast_add, h0, h6, h7, hx, hxe, hlt, hlt2, hw, kk, -Int.not_le, -Int.not_lt, -Nat.not_le, -Nat.not_lt, ty3, ty4, ty28, ty71, ty76, hm, hl, hr, E64, n64_8]
        refine IH _ _ _ _ _ ?_ ?_ ?_
        all_goals simp [h0, h6, h7]
    | true =>
      have IH := fun e0 e6 e7 T X h0 h6 h7 => ih (i + 1) (out ++ [(i : Int)]) e0 e6 e7 T X h0 h6 h7 (by omega) (by omega) (by simp; omega)
      rw [show mineG c0 i (x :: g.drop (i + 1)) out = mineG c0 (i + 1) (g.drop (i + 1)) (out ++ [(i : Int)]) from by simp [matchG, mineG, hb]]
      rw [hb] at kk
      rw [kof_snoc] at IH
      have hs1 := sizes_ints out
      have hs2 := ints_snoc out (i : Int)
      have b1 : (out.length + 1) * 8 ≤ 140737488355328 := by omega
      have b2 : out.length + 1 ≤ 140737488355328 := by omega
      rcases kof_or 1 out with ⟨hk, rfl⟩ | hk
      · have en : intVs [] = [] := rfl
        have en1 : intVs ([] ++ [(i : Int)]) = [.int .i64 (i : Int)] := rfl
        rw [en1] at IH
        rw [hk, en]
        simp [-Int.natCast_add, h0, h6, h7, hx, hxe, hlt, hlt2, hw, kk, -Int.not_le, -Int.not_lt, -Nat.not_le, -Nat.not_lt, ty3, ty4, ty28, ty71, ty76, hm, hl, hr, E64, n64_8]
        refine IH _ _ _ _ _ ?_ ?_ ?_
        all_goals simp [h0, h6, h7]
      · rw [hk]
        simp [-Int.natCast_add, -List.append_assoc, h0, h6, h7, hx, hxe, hlt, hlt2, hw, kk, hs1, hs2, b1, b2, -Int.not_le, -Int.not_lt, -Nat.not_le, -Nat.not_lt, ty3, ty4, ty28, ty71, ty76, hm, hl, hr, E64, n64_8]
        refine IH _ _ _ _ _ ?_ ?_ ?_
        all_goals simp [h0, h6, h7]
set_option maxHeartbeats 8000000 in
theorem c64 (g : List Grp) (hg : ∀ x ∈ g, POk x.filter ∧ x.clients.length < 1000) (hgl : g.length < 1000000) (c0 : Int) (st : St) : EvF gS 64 [.slice (encGrps g), .int .i64 c0] st = some (.ret (.slice (intVs (gmine g c0))) none, st) := by
  refine EvF_start fi64_eq (fun x h => by cases h) m64 ?_
  rw [st64]
  have hm : fi64.marks = [1000000] := rfl
  have hl : fi64.locals = [7] := rfl
  have hr : fi64.results = [.tmp 4] := rfl
  have L0 := fun e0 e6 e7 T X h0 h6 h7 => L64 g hg hgl c0 st g.length 0 [] e0 e6 e7 T X h0 h6 h7 (Nat.zero_le _) rfl (Nat.le_refl _)
  simp only [show ((0 : Nat) : Int) = 0 from rfl, List.drop_zero, show kof 1 ([] : List Int) = 0 from rfl, show intVs [] = [] from rfl] at L0
  show _ = some (Out.ret (V.slice (intVs (mineG c0 0 g []))) none, st)
  simp [L0, -Int.not_le, -Int.not_lt, -Nat.not_le, -Nat.not_lt, ty3, ty4, ty28, ty71, ty76, hm, hl, hr, E64, n64_8]
theorem k64 (g : List Grp) (hg : ∀ x ∈ g, POk x.filter ∧ x.clients.length < 1000) (hgl : g.length < 1000000) (c0 : Int) (fr : Fr) (st : St) : callStep gS (EvF gS) 64 [.slice (encGrps g), .int .i64 c0] fr st = some (.ok (.val (.slice (intVs (gmine g c0)))) fr st) :=
  call_pure rfl fi64_eq rfl (fun st => c64 g hg hgl c0 st) (by simp [V.flat])
theorem x64 : gS.ext 64 = none := rfl
theorem p64 : fi64.pure = true := rfl
theorem k45 (f : List Pred) (h_f : PSm f) (fr : Fr) (st : St) : callStep gS (EvF gS) 45 [.slice (encPreds f)] fr st = some (.ok (.val (.slice (encPreds f))) fr st) :=
  call_pure' rfl fi45_eq rfl (by simp [flats, V.flat]) (c45 f h_f ⟨[], 0⟩ (Nat.le_refl _)) (by simp [V.flat])
/-- A row of numbers in a variable. -/
def CLo (v : V) (l : List Int) : Prop := (v = .osl 0 [] ∧ l = []) ∨ v = .slice (intVs l)
def fi54 : FI := { body := codeOf Try.f54, ntmps := 67, results := [.tmp 2], pers := [0, 2, 3, 4, 5, 6, 8, 9, 11, 12, 13, 14, 21, 22, 23, 43, 44, 45], locals := [5, 8, 9, 11], pure := false, marks := [1000000] }
theorem fi54_eq : gS.fn 54 = some fi54 := by kernel_rfl
theorem st54 (a0 : V) : startFr fi54 [a0] = { ps := [(0, .val a0), (2, .any), (3, .any), (4, .any), (5, .any), (6, .any), (8, .any), (9, .any), (11, .any), (12, .any), (13, .any), (14, .any), (21, .any), (22, .any), (23, .any), (43, .any), (44, .any), (45, .any)], ts := [], lc := [] } := rfl
def b54 : Code := mini (codeOf Try.f54)
def c54_36 : Code := codeN b54 3353803
def c54_34 : Code := .seq (codeN b54 2305227) c54_36
def c54_37 : Code := codeN b54 994507
def c54_32 : Code := .seq (.block 3 c54_34) c54_37
def c54_28 : Code := .seq (.cond (.tmp 24) .skip (.exit 2)) c54_32
def c54_26 : Code := .seq (codeN b54 142539) c54_28
def c54_25 : Code := .loop c54_26
def c54_24 : Code := .block 2 c54_25
def c54_22 : Code := .seq (codeN b54 19659) c54_24
def c54_41 : Code := .cond (.tmp 38) (.exit 1) .skip
def c54_39 : Code := .seq (codeN b54 40139) c54_41
def c54_64 : Code := codeN b54 93945035
def c54_63 : Code := .cond (.tmp 53) c54_64 .skip
def c54_61 : Code := .seq (codeN b54 43613387) c54_63
def c54_59 : Code := .seq (codeN b54 18447563) c54_61
def c54_66 : Code := codeN b54 7961803
def c54_57 : Code := .seq (.block 5 c54_59) c54_66
def c54_53 : Code := .seq (.cond (.tmp 46) .skip (.exit 4)) c54_57
def c54_51 : Code := .seq (codeN b54 1146059) c54_53
def c54_50 : Code := .loop c54_51
def c54_49 : Code := .block 4 c54_50
def c54_47 : Code := .seq (codeN b54 163019) c54_49
def c54_67 : Code := codeN b54 130251
theorem e54_67 : evK gS fi54 c54_67 fr st k = opsR gS fi54 [mv 61 3 71,
 ld 62 76 9 76,
 op1 63 (.buildSlice 71 1 #[(0, (.tmp 62))]) 71,
 op1 64 (.call { callee := (.builtin .append), args := #[(.tmp 61), (.tmp 63)], argTypes := #[71, 71] }) 71,
 asn 3 64 71] fr st k := evK_r 19 (by kernel_rfl)
def c54_46 : Code := .seq c54_47 c54_67
def c54_44 : Code := .seq (codeN b54 48331) c54_46
def c54_38 : Code := .seq c54_39 c54_44
theorem e54_38 : evK gS fi54 c54_38 fr st k = evK gS fi54 c54_39 fr st (.seq c54_44 k) := rfl
def c54_21 : Code := .seq c54_22 c54_38
def c54_19 : Code := .seq (codeN b54 5323) c54_21
def c54_17 : Code := .seq (codeN b54 2251) c54_19
def c54_68 : Code := codeN b54 971
def c54_15 : Code := .seq (.block 1 c54_17) c54_68
def c54_11 : Code := .seq (.cond (.tmp 15) .skip (.exit 0)) c54_15
def c54_9 : Code := .seq (codeN b54 139) c54_11
def c54_8 : Code := .loop c54_9
def c54_7 : Code := .block 0 c54_8
def c54_5 : Code := .seq (codeN b54 19) c54_7
def c54_69 : Code := .seq (codeN b54 23) .ret
def c54_4 : Code := .seq c54_5 c54_69
def c54_2 : Code := .seq (codeN b54 5) c54_4
def c54_0 : Code := .seq (codeN b54 2) c54_2
theorem E54 : (evK gS fi54 c54_36 fr st k = opsR gS fi54 [mv 27 6 4,
 mv 28 27 4,
 mk (some 29) (.fieldAddr 70 (.tmp 5) 3) 0 (some (1, true)),
 mk (some 30) (.load 49 (.tmp 29)) 49 (some (1, true)),
 mk (some 31) (.fieldAddr 70 (.tmp 8) 3) 0 (some (1, true)),
 mk (some 32) (.load 49 (.tmp 31)) 49 (some (1, true)),
 mk (some 33) (.call { callee := (.value (.func 41)), args := #[(.tmp 30), (.tmp 32)], argTypes := #[49, 49] }) 4 (some (1, true)),
 mk (some 34) (.unOp .not 4 (.tmp 33)) 4 (some (1, true)),
 op1 35 (.pick (.tmp 28) (.tmp 34) (.const (.bool false))) 4,
 asn 6 35 4] fr st k) ∧
 (evK gS fi54 c54_34 fr st k = opsR gS fi54 [ixa 25 67 21 23 0,
 ld 26 70 25 70,
 op1 8 (.alloc 70) 0,
 sto 70 8 26] fr st (.seq c54_36 k)) ∧
 (evK gS fi54 c54_37 fr st k = opsR gS fi54 [op1 36 (.binOp .add 3 (.tmp 23) (.const (.int .i64 1)) 3) 3,
 mv 23 36 3] fr st k) ∧
 evK gS fi54 c54_32 fr st k = evK gS fi54 c54_34 fr st (.blk 3 (.seq c54_37 k)) ∧
 evK gS fi54 c54_28 fr st k = condK gS fi54 (fr.op (.tmp 24)).bool? .skip (.exit 2) fr st (.seq c54_32 k) ∧
 evK gS fi54 c54_26 fr st k = opsR gS fi54 [bop 24 .lss 3 23 22 3 0] fr st (.seq c54_28 k) ∧
 evK gS fi54 c54_24 fr st k = evK gS fi54 c54_25 fr st (.blk 2 k) ∧
 (evK gS fi54 c54_22 fr st k = opsR gS fi54 [mv 19 0 67,
 mv 20 4 3,
 op1 21 (.slice 67 (.tmp 19) none (some (.tmp 20)) none) 67,
 len1 22 21 67 3,
 op1 23 (.move (.const (.int .i64 0))) 3] fr st (.seq c54_24 k)) ∧
 evK gS fi54 c54_41 fr st k = condK gS fi54 (fr.op (.tmp 38)).bool? (.exit 1) .skip fr st k ∧
 (evK gS fi54 c54_39 fr st k = opsR gS fi54 [mv 37 6 4,
 op1 38 (.unOp .not 4 (.tmp 37)) 4] fr st (.seq c54_41 k)) ∧
 (evK gS fi54 c54_64 fr st k = opsR gS fi54 [op1 54 (.fieldAddr 76 (.tmp 9) 1) 0,
 ld 55 28 54 28,
 op1 56 (.fieldAddr 70 (.tmp 11) 0) 0,
 ld 57 3 56 3,
 cal 58 95 [(.tmp 55), (.tmp 57)] [28, 3] 28,
 op1 59 (.fieldAddr 76 (.tmp 9) 1) 0,
 sto 28 59 58] fr st k) ∧
 evK gS fi54 c54_63 fr st k = condK gS fi54 (fr.op (.tmp 53)).bool? c54_64 .skip fr st k ∧
 (evK gS fi54 c54_61 fr st k = opsR gS fi54 [op1 49 (.fieldAddr 70 (.tmp 5) 3) 0,
 ld 50 49 49 49,
 op1 51 (.fieldAddr 70 (.tmp 11) 3) 0,
 ld 52 49 51 49,
 cal 53 41 [(.tmp 50), (.tmp 52)] [49, 49] 4] fr st (.seq c54_63 k)) ∧
 (evK gS fi54 c54_59 fr st k = opsR gS fi54 [ixa 47 67 43 45 0,
 ld 48 70 47 70,
 op1 11 (.alloc 70) 0,
 sto 70 11 48] fr st (.seq c54_61 k)) ∧
 (evK gS fi54 c54_66 fr st k = opsR gS fi54 [op1 60 (.binOp .add 3 (.tmp 45) (.const (.int .i64 1)) 3) 3,
 mv 45 60 3] fr st k) ∧
 evK gS fi54 c54_57 fr st k = evK gS fi54 c54_59 fr st (.blk 5 (.seq c54_66 k)) ∧
 evK gS fi54 c54_53 fr st k = condK gS fi54 (fr.op (.tmp 46)).bool? .skip (.exit 4) fr st (.seq c54_57 k) ∧
 evK gS fi54 c54_51 fr st k = opsR gS fi54 [bop 46 .lss 3 45 44 3 0] fr st (.seq c54_53 k) ∧
 evK gS fi54 c54_49 fr st k = evK gS fi54 c54_50 fr st (.blk 4 k) ∧
 (evK gS fi54 c54_47 fr st k = opsR gS fi54 [mv 43 0 67,
 len1 44 43 67 3,
 op1 45 (.move (.const (.int .i64 0))) 3] fr st (.seq c54_49 k)) ∧
 evK gS fi54 c54_46 fr st k = evK gS fi54 c54_47 fr st (.seq c54_67 k) ∧
 (evK gS fi54 c54_44 fr st k = opsR gS fi54 [op1 39 (.fieldAddr 70 (.tmp 5) 3) 0,
 ld 40 49 39 49,
 cal 41 45 [(.tmp 40)] [49] 49,
 op1 42 (.build 76 #[(0, (.tmp 41))]) 76,
 op1 9 (.alloc 76) 0,
 sto 76 9 42] fr st (.seq c54_46 k)) ∧
 evK gS fi54 c54_21 fr st k = evK gS fi54 c54_22 fr st (.seq c54_38 k) ∧
 evK gS fi54 c54_19 fr st k = opsR gS fi54 [op1 6 (.assign (.const (.bool true))) 4] fr st (.seq c54_21 k) ∧
 (evK gS fi54 c54_17 fr st k = opsR gS fi54 [mv 16 14 3,
 ixa 17 67 12 14 0,
 ld 18 70 17 70,
 op1 5 (.alloc 70) 0,
 asn 4 16 3,
 sto 70 5 18] fr st (.seq c54_19 k)) ∧
 (evK gS fi54 c54_68 fr st k = opsR gS fi54 [op1 65 (.binOp .add 3 (.tmp 14) (.const (.int .i64 1)) 3) 3,
 mv 14 65 3] fr st k) ∧
 evK gS fi54 c54_15 fr st k = evK gS fi54 c54_17 fr st (.blk 1 (.seq c54_68 k)) ∧
 evK gS fi54 c54_11 fr st k = condK gS fi54 (fr.op (.tmp 15)).bool? .skip (.exit 0) fr st (.seq c54_15 k) ∧
 evK gS fi54 c54_9 fr st k = opsR gS fi54 [bop 15 .lss 3 14 13 3 0] fr st (.seq c54_11 k) ∧
 evK gS fi54 c54_7 fr st k = evK gS fi54 c54_8 fr st (.blk 0 k) ∧
 (evK gS fi54 c54_5 fr st k = opsR gS fi54 [mv 12 0 67,
 len1 13 12 67 3,
 op1 14 (.move (.const (.int .i64 0))) 3] fr st (.seq c54_7 k)) ∧
 (evK gS fi54 c54_69 fr st k = opsR gS fi54 [mv 66 3 71,
 asn 2 66 71] fr st (.seq .ret k)) ∧
 evK gS fi54 c54_4 fr st k = evK gS fi54 c54_5 fr st (.seq c54_69 k) ∧
 evK gS fi54 c54_2 fr st k = opsR gS fi54 [op1 3 (.assign (.const (.slice none 0 0))) 71] fr st (.seq c54_4 k) ∧
 evK gS fi54 c54_0 fr st k = opsR gS fi54 [op1 2 (.assign (.const (.slice none 0 0))) 71] fr st (.seq c54_2 k) := ⟨evK_r 9 (by kernel_rfl), evK_rs 8 rfl (by kernel_rfl), evK_r 10 (by kernel_rfl), rfl, rfl, evK_rs 7 rfl (by kernel_rfl), rfl, evK_rs 6 rfl (by kernel_rfl), rfl, evK_rs 11 rfl (by kernel_rfl), evK_r 17 (by kernel_rfl), rfl, evK_rs 16 rfl (by kernel_rfl), evK_rs 15 rfl (by kernel_rfl), evK_r 18 (by kernel_rfl), rfl, rfl, evK_rs 14 rfl (by kernel_rfl), rfl, evK_rs 13 rfl (by kernel_rfl), rfl, evK_rs 12 rfl (by kernel_rfl), rfl, evK_rs 5 rfl (by kernel_rfl), evK_rs 4 rfl (by kernel_rfl), evK_r 20 (by kernel_rfl), rfl, rfl, evK_rs 3 rfl (by kernel_rfl), rfl, evK_rs 2 rfl (by kernel_rfl), evK_rs 21 rfl (by kernel_rfl), rfl, evK_rs 1 rfl (by kernel_rfl), evK_rs 0 rfl (by kernel_rfl)⟩
theorem m54 : mini fi54.body = c54_0 := by kernel_rfl
theorem n54_25 (fr : Fr) (st : St) (k : Kt) : nextK gS fi54 (.loop c54_26 k) .normal fr st = evK gS fi54 c54_25 fr st k := rfl
theorem n54_50 (fr : Fr) (st : St) (k : Kt) : nextK gS fi54 (.loop c54_51 k) .normal fr st = evK gS fi54 c54_50 fr st k := rfl
theorem n54_8 (fr : Fr) (st : St) (k : Kt) : nextK gS fi54 (.loop c54_9 k) .normal fr st = evK gS fi54 c54_8 fr st k := rfl
set_option maxHeartbeats 8000000 in
theorem L54_25 (l : List Sub) (hl1 : ∀ x ∈ l, PSm x.filter) (hl2 : l.length ≤ 1000) (s : Sub) (hs : PSm s.filter) (i : Nat) (out : List Grp) (ko : Nat) (st : St) (R : Out × St) (hi : i ≤ l.length) (fin : Bool)
    (H : ∀ (e8 e9 e11 e21 e22 e23 e43 e44 e45 : E) (T : List (Nat × E)) (X : List (Nat × List V)), e8.Tame → e9.Tame → e11.Tame → e21.Tame → e22.Tame → e23.Tame → e43.Tame → e44.Tame → e45.Tame → lk X 5 = some s.cells → evK gS fi54 c54_38 { ps := [(0, .val (.slice (encSubs l))), (2, .own 0 []), (3, .own ko (encGrps out)), (4, .val (.int .i64 (i : Nat))), (5, .lp 5 0), (6, .val (.bool fin)), (8, e8), (9, e9), (11, e11), (12, .val (.slice (encSubs l))), (13, .val (.int .i64 l.length)), (14, .val (.int .i64 (i : Nat))), (21, e21), (22, e22), (23, e23), (43, e43), (44, e44), (45, e45)], ts := T, lc := X } st (.blk 1 (.seq c54_68 (.loop c54_9 (.blk 0 (.seq c54_69 .nil))))) = some R) :
    ∀ (m k : Nat) (b : Bool) (e8 e9 e11 e43 e44 e45 : E) (T : List (Nat × E)) (X : List (Nat × List V)) (h8 : e8.Tame) (h9 : e9.Tame) (h11 : e11.Tame) (h43 : e43.Tame) (h44 : e44.Tame) (h45 : e45.Tame) (hx5 : lk X 5 = some s.cells), k ≤ i → i - k = m → fin = ((l.take i).drop k).foldl (fun b t => b && !fsame s.filter t.filter) b →
    evK gS fi54 c54_25 { ps := [(0, .val (.slice (encSubs l))), (2, .own 0 []), (3, .own ko (encGrps out)), (4, .val (.int .i64 (i : Nat))), (5, .lp 5 0), (6, .val (.bool b)), (8, e8), (9, e9), (11, e11), (12, .val (.slice (encSubs l))), (13, .val (.int .i64 l.length)), (14, .val (.int .i64 (i : Nat))), (21, .val (.slice (encSubs (l.take i)))), (22, .val (.int .i64 (i : Nat))), (23, .val (.int .i64 (k : Nat))), (43, e43), (44, e44), (45, e45)], ts := T, lc := X } st (.blk 2 (.seq c54_38 (.blk 1 (.seq c54_68 (.loop c54_9 (.blk 0 (.seq c54_69 .nil))))))) = some R := by
  intro m
  have hm : fi54.marks = [1000000] := rfl
  have hl : fi54.locals = [5, 8, 9, 11] := rfl
  have hr : fi54.results = [.tmp 2] := rfl
  have hso := hs.ok
  have hlt0 : (l.take i).length = i := by simp; omega
  induction m with
  | zero =>
    intro k b e8 e9 e11 e43 e44 e45 T X h8 h9 h11 h43 h44 h45 hx5 hk hm2 hf
    obtain rfl : k = i := by omega
    rw [List.drop_of_length_le (by omega), List.foldl_nil] at hf
    subst hf
    have HH := H e8 e9 e11 (.val (.slice (encSubs (l.take k)))) (.val (.int .i64 k)) (.val (.int .i64 k)) e43 e44 e45
    refine evK_loop c54_26 _ _ _ _ rfl ?_
    simp [-Int.natCast_add, h8, h9, h11, h43, h44, h45, -Int.not_le, -Int.not_lt, -Nat.not_le, -Nat.not_lt, ty3, ty4, ty28, ty49, ty67, ty70, ty71, ty76, hm, hl, hr, E54, e54_67, n54_25, n54_50, n54_8]
    exact HH _ _ h8 h9 h11 rfl rfl rfl h43 h44 h45 hx5
  | succ m ih =>
    intro k b e8 e9 e11 e43 e44 e45 T X h8 h9 h11 h43 h44 h45 hx5 hk hm2 hf
    obtain ⟨x, hx⟩ : ∃ x, (l.take i)[k]? = some x := ⟨(l.take i)[k]'(by omega), List.getElem?_eq_getElem (by omega)⟩
    have hd := drop_get hx
    have hlt : (k : Int) < (i : Int) := by omega
    obtain ⟨hlt2, hxe⟩ := List.getElem?_eq_some_iff.1 hx
    have hw : IntKind.wrap .i64 ((k : Int) + 1) = ((k + 1 : Nat) : Int) := by rw [wrap64 (by omega) (by omega)]; omega
    have hxo := (hl1 x (List.mem_of_mem_take (List.mem_of_getElem? hx))).ok
    rw [hd, List.foldl_cons] at hf
    have kk : ∀ (fr : Fr) (st : St), callStep gS (EvF gS) 41 [.slice (encPreds s.filter), .slice (encPreds x.filter)] fr st = some (.ok (.val (.bool (fsame s.filter x.filter))) fr st) := fun fr st => k41 _ _ hso hxo fr st
    have IH := fun e8 e9 e11 e43 e44 e45 T X h8 h9 h11 h43 h44 h45 hx5 => ih (k + 1) _ e8 e9 e11 e43 e44 e45 T X h8 h9 h11 h43 h44 h45 hx5 (by omega) (by omega) hf
    generalize fsame s.filter x.filter = q at *
    generalize l.take i = L at *
    subst hlt0
    refine evK_loop c54_26 _ _ _ _ rfl ?_
    simp only [Sub.cells] at hx5
    cases b with
    | false =>
      simp only [Bool.false_and] at IH
      simp [-Int.natCast_add, h8, h9, h11, h43, h44, h45, hx, hxe, hlt, hlt2, hw, hx5, -Int.not_le, -Int.not_lt, -Nat.not_le, -Nat.not_lt, ty3, ty4, ty28, ty49, ty67, ty70, ty71, ty76, hm, hl, hr, E54, e54_67, n54_25, n54_50, n54_8]
      refine IH _ _ _ _ _ _ _ _ ?_ ?_ ?_ ?_ ?_ ?_ ?_
      all_goals simp [h8, h9, h11, h43, h44, h45, hx5]
    | true =>
      simp only [Bool.true_and] at IH
      simp [-Int.natCast_add, h8, h9, h11, h43, h44, h45, hx, hxe, hlt, hlt2, hw, hx5, kk, -Int.not_le, -Int.not_lt, -Nat.not_le, -Nat.not_lt, ty3, ty4, ty28, ty49, ty67, ty70, ty71, ty76, hm, hl, hr, E54, e54_67, n54_25, n54_50, n54_8]
      refine IH _ _ _ _ _ _ _ _ ?_ ?_ ?_ ?_ ?_ ?_ ?_
      all_goals simp [h8, h9, h11, h43, h44, h45, hx5]
set_option maxHeartbeats 8000000 in
theorem L54_50 (l : List Sub) (hl1 : ∀ x ∈ l, PSm x.filter) (hl2 : l.length ≤ 1000) (s : Sub) (hs : PSm s.filter) (i : Nat) (out : List Grp) (ko : Nat) (st : St) (R : Out × St) (fin : List Int)
    (H : ∀ (CL : V) (e8 e11 e21 e22 e23 : E) (T : List (Nat × E)) (X : List (Nat × List V)), CLo CL fin → e8.Tame → e11.Tame → e21.Tame → e22.Tame → e23.Tame → lk X 9 = some [.slice (encPreds s.filter), CL] → evK gS fi54 c54_67 { ps := [(0, .val (.slice (encSubs l))), (2, .own 0 []), (3, .own ko (encGrps out)), (4, .val (.int .i64 (i : Nat))), (5, .lp 5 0), (6, .val (.bool true)), (8, e8), (9, .lp 9 0), (11, e11), (12, .val (.slice (encSubs l))), (13, .val (.int .i64 l.length)), (14, .val (.int .i64 (i : Nat))), (21, e21), (22, e22), (23, e23), (43, .val (.slice (encSubs l))), (44, .val (.int .i64 l.length)), (45, .val (.int .i64 l.length))], ts := T, lc := X } st (.blk 1 (.seq c54_68 (.loop c54_9 (.blk 0 (.seq c54_69 .nil))))) = some R) :
    ∀ (m k : Nat) (acc : List Int) (CL : V) (e8 e11 e21 e22 e23 : E) (T : List (Nat × E)) (X : List (Nat × List V)) (hc : CLo CL acc) (h8 : e8.Tame) (h11 : e11.Tame) (h21 : e21.Tame) (h22 : e22.Tame) (h23 : e23.Tame) (hx5 : lk X 5 = some s.cells) (hx9 : lk X 9 = some [.slice (encPreds s.filter), CL]), k ≤ l.length → l.length - k = m → acc.length ≤ k → fin = (l.drop k).foldl (cliStep s) acc →
    evK gS fi54 c54_50 { ps := [(0, .val (.slice (encSubs l))), (2, .own 0 []), (3, .own ko (encGrps out)), (4, .val (.int .i64 (i : Nat))), (5, .lp 5 0), (6, .val (.bool true)), (8, e8), (9, .lp 9 0), (11, e11), (12, .val (.slice (encSubs l))), (13, .val (.int .i64 l.length)), (14, .val (.int .i64 (i : Nat))), (21, e21), (22, e22), (23, e23), (43, .val (.slice (encSubs l))), (44, .val (.int .i64 l.length)), (45, .val (.int .i64 (k : Nat)))], ts := T, lc := X } st (.blk 4 (.seq c54_67 (.blk 1 (.seq c54_68 (.loop c54_9 (.blk 0 (.seq c54_69 .nil))))))) = some R := by
  intro m
  have hm : fi54.marks = [1000000] := rfl
  have hl : fi54.locals = [5, 8, 9, 11] := rfl
  have hr : fi54.results = [.tmp 2] := rfl
  have hso := hs.ok
  induction m with
  | zero =>
    intro k acc CL e8 e11 e21 e22 e23 T X hc h8 h11 h21 h22 h23 hx5 hx9 hk hm2 ha hf
    obtain rfl : k = l.length := by omega
    rw [List.drop_length, List.foldl_nil] at hf
    subst hf
    refine evK_loop c54_51 _ _ _ _ rfl ?_
    simp [-Int.natCast_add, h8, h11, h21, h22, h23, -Int.not_le, -Int.not_lt, -Nat.not_le, -Nat.not_lt, ty3, ty4, ty28, ty49, ty67, ty70, ty71, ty76, hm, hl, hr, E54, e54_38, n54_25, n54_50, n54_8]
    exact H CL _ _ _ _ _ _ _ hc h8 h11 h21 h22 h23 hx9
  | succ m ih =>
    intro k acc CL e8 e11 e21 e22 e23 T X hc h8 h11 h21 h22 h23 hx5 hx9 hk hm2 ha hf
    obtain ⟨x, hx⟩ : ∃ x, l[k]? = some x := ⟨l[k]'(by omega), List.getElem?_eq_getElem (by omega)⟩
    have hd := drop_get hx
    have hlt : (k : Int) < (l.length : Int) := by omega
    obtain ⟨hlt2, hxe⟩ := List.getElem?_eq_some_iff.1 hx
    have hw : IntKind.wrap .i64 ((k : Int) + 1) = ((k + 1 : Nat) : Int) := by rw [wrap64 (by omega) (by omega)]; omega
    have hxo := (hl1 x (List.mem_of_getElem? hx)).ok
    rw [hd, List.foldl_cons] at hf
    have kk : ∀ (fr : Fr) (st : St), callStep gS (EvF gS) 41 [.slice (encPreds s.filter), .slice (encPreds x.filter)] fr st = some (.ok (.val (.bool (fsame s.filter x.filter))) fr st) := fun fr st => k41 _ _ hso hxo fr st
    have hll := layI_len acc x.client
    simp only [Sub.cells] at hx5
    refine evK_loop c54_51 _ _ _ _ rfl ?_
    cases hq : fsame s.filter x.filter with
    | false =>
      rw [hq] at kk
      have hst : cliStep s acc x = acc := by unfold cliStep; rw [hq]; rfl
      rw [hst] at hf
      have IH := fun e8 e11 e21 e22 e23 T X h8 h11 h21 h22 h23 hx5 hx9 => ih (k + 1) acc CL e8 e11 e21 e22 e23 T X hc h8 h11 h21 h22 h23 hx5 hx9 (by omega) (by omega) (by omega) hf
      simp [-Int.natCast_add, h8, h11, h21, h22, h23, hx, hxe, hlt, hlt2, hw, hx5, hx9, kk, -Int.not_le, -Int.not_lt, -Nat.not_le, -Nat.not_lt, ty3, ty4, ty28, ty49, ty67, ty70, ty71, ty76, hm, hl, hr, E54, e54_38, n54_25, n54_50, n54_8]
      refine IH _ _ _ _ _ _ _ ?_ ?_ ?_ ?_ ?_ ?_ ?_
      all_goals simp [h8, h11, h21, h22, h23, hx5, hx9]
    | true =>
      rw [hq] at kk
      have hst : cliStep s acc x = layI acc x.client := by unfold cliStep; rw [hq]; rfl
      rw [hst] at hf
      have kl := fun fr st => k95 acc (by omega) x.client fr st
      have IH := fun e8 e11 e21 e22 e23 T X h8 h11 h21 h22 h23 hx5 hx9 => ih (k + 1) (layI acc x.client) (.slice (intVs (layI acc x.client))) e8 e11 e21 e22 e23 T X (.inr rfl) h8 h11 h21 h22 h23 hx5 hx9 (by omega) (by omega) (by omega) hf
      have hls : ∀ (X : List (Nat × List V)) (a b : List V), lk X 9 = some a → lk (lset X 9 b) 9 = some b := fun X a b h => lk_lset_self X 9 a b h
      rcases hc with ⟨rfl, rfl⟩ | rfl
      · rw [show intVs [] = [] from rfl] at kl
        simp [-Int.natCast_add, h8, h11, h21, h22, h23, hx, hxe, hlt, hlt2, hw, hx5, hx9, kk, kl, -Int.not_le, -Int.not_lt, -Nat.not_le, -Nat.not_lt, ty3, ty4, ty28, ty49, ty67, ty70, ty71, ty76, hm, hl, hr, E54, e54_38, n54_25, n54_50, n54_8]
        refine IH _ _ _ _ _ _ _ ?_ ?_ ?_ ?_ ?_ ?_ ?_
        all_goals simp [h8, h11, h21, h22, h23, hx5, hx9, lk_lset_self _ _ _ _ hx9]
        all_goals exact lk_lset_self _ _ [.slice (encPreds s.filter), .osl 0 []] _ (by simp [hx9])
      · simp [-Int.natCast_add, h8, h11, h21, h22, h23, hx, hxe, hlt, hlt2, hw, hx5, hx9, kk, kl, -Int.not_le, -Int.not_lt, -Nat.not_le, -Nat.not_lt, ty3, ty4, ty28, ty49, ty67, ty70, ty71, ty76, hm, hl, hr, E54, e54_38, n54_25, n54_50, n54_8]
        refine IH _ _ _ _ _ _ _ ?_ ?_ ?_ ?_ ?_ ?_ ?_
        all_goals simp [h8, h11, h21, h22, h23, hx5, hx9, lk_lset_self _ _ _ _ hx9]
        all_goals exact lk_lset_self _ _ [.slice (encPreds s.filter), .slice (intVs acc)] _ (by simp [hx9])
set_option maxHeartbeats 8000000 in
theorem L54 (l : List Sub) (hl1 : ∀ x ∈ l, PSm x.filter) (hl2 : l.length ≤ 1000) (st : St) :
    ∀ (m i : Nat) (out : List Grp) (e4 e5 e6 e8 e9 e11 e21 e22 e23 e43 e44 e45 : E) (T : List (Nat × E)) (X : List (Nat × List V)) (h4 : e4.Tame) (h5 : e5.Tame) (h6 : e6.Tame) (h8 : e8.Tame) (h9 : e9.Tame) (h11 : e11.Tame) (h21 : e21.Tame) (h22 : e22.Tame) (h23 : e23.Tame) (h43 : e43.Tame) (h44 : e44.Tame) (h45 : e45.Tame), i ≤ l.length → l.length - i = m → out.length ≤ i →
    evK gS fi54 c54_8 { ps := [(0, .val (.slice (encSubs l))), (2, .own 0 []), (3, .own (kof 2 out) (encGrps out)), (4, e4), (5, e5), (6, e6), (8, e8), (9, e9), (11, e11), (12, .val (.slice (encSubs l))), (13, .val (.int .i64 l.length)), (14, .val (.int .i64 (i : Nat))), (21, e21), (22, e22), (23, e23), (43, e43), (44, e44), (45, e45)], ts := T, lc := X } st (.blk 0 (.seq c54_69 .nil)) = some (.ret (.slice (encGrps (gofG l i (l.drop i) out))) none, st) := by
  intro m
  have hm : fi54.marks = [1000000] := rfl
  have hl : fi54.locals = [5, 8, 9, 11] := rfl
  have hr : fi54.results = [.tmp 2] := rfl
  induction m with
  | zero =>
    intro i out e4 e5 e6 e8 e9 e11 e21 e22 e23 e43 e44 e45 T X h4 h5 h6 h8 h9 h11 h21 h22 h23 h43 h44 h45 hi hm2 ho
    obtain rfl : i = l.length := by omega
    rw [List.drop_length]
    have hz := frz_slice (xs := encGrps out) (flats_grps out) st
    show _ = some (Out.ret (V.slice (encGrps out)) none, st)
    refine evK_loop c54_9 _ _ _ _ rfl ?_
    rcases kof_or 1 out with ⟨hk, rfl⟩ | hk
    · have hk2 : kof 2 ([] : List Grp) = 0 := rfl
      have en : encGrps [] = [] := rfl
      rw [en] at hz
      rw [hk2, en]
      simp [h4, h5, h6, h8, h9, h11, h21, h22, h23, h43, h44, h45, hz, -Int.not_le, -Int.not_lt, -Nat.not_le, -Nat.not_lt, ty3, ty4, ty28, ty49, ty67, ty70, ty71, ty76, hm, hl, hr, E54, e54_38, n54_25, n54_50, n54_8]
    · have hk2 : kof 2 out = 2 := by
        unfold kof at hk ⊢; split at hk <;> simp_all
      rw [hk2]
      simp [h4, h5, h6, h8, h9, h11, h21, h22, h23, h43, h44, h45, hz, -Int.not_le, -Int.not_lt, -Nat.not_le, -Nat.not_lt, ty3, ty4, ty28, ty49, ty67, ty70, ty71, ty76, hm, hl, hr, E54, e54_38, n54_25, n54_50, n54_8]
  | succ m ih =>
    intro i out e4 e5 e6 e8 e9 e11 e21 e22 e23 e43 e44 e45 T X h4 h5 h6 h8 h9 h11 h21 h22 h23 h43 h44 h45 hi hm2 ho
    obtain ⟨s, hx⟩ : ∃ s, l[i]? = some s := ⟨l[i]'(by omega), List.getElem?_eq_getElem (by omega)⟩
    have hd := drop_get hx
    have hlt : (i : Int) < (l.length : Int) := by omega
    obtain ⟨hlt2, hxe⟩ := List.getElem?_eq_some_iff.1 hx
    have hw : IntKind.wrap .i64 ((i : Int) + 1) = ((i + 1 : Nat) : Int) := by rw [wrap64 (by omega) (by omega)]; omega
    have hs := hl1 s (List.mem_of_getElem? hx)
    have hso := hs.ok
    rw [hd]
    have hgo : gofG l i (s :: l.drop (i + 1)) out = gofG l (i + 1) (l.drop (i + 1)) (if fstOf l i s then out ++ [⟨s.filter, cliOf l s⟩] else out) := rfl
    rw [hgo]
    have hol : (if fstOf l i s then out ++ [⟨s.filter, cliOf l s⟩] else out).length ≤ i + 1 := by
      split
      · simp; omega
      · omega
    have IH := fun e4 e5 e6 e8 e9 e11 e21 e22 e23 e43 e44 e45 T X h4 h5 h6 h8 h9 h11 h21 h22 h23 h43 h44 h45 => ih (i + 1) (if fstOf l i s then out ++ [⟨s.filter, cliOf l s⟩] else out) e4 e5 e6 e8 e9 e11 e21 e22 e23 e43 e44 e45 T X h4 h5 h6 h8 h9 h11 h21 h22 h23 h43 h44 h45 (by omega) (by omega) hol
    generalize hR : (Out.ret (V.slice (encGrps (gofG l (i + 1) (l.drop (i + 1)) (if fstOf l i s then out ++ [⟨s.filter, cliOf l s⟩] else out)))) none, st) = R at IH ⊢
    clear hR
    have HA : ∀ (e8 e9 e11 e21 e22 e23 e43 e44 e45 : E) (T : List (Nat × E)) (X : List (Nat × List V)), e8.Tame → e9.Tame → e11.Tame → e21.Tame → e22.Tame → e23.Tame → e43.Tame → e44.Tame → e45.Tame → lk X 5 = some s.cells → evK gS fi54 c54_38 { ps := [(0, .val (.slice (encSubs l))), (2, .own 0 []), (3, .own (kof 2 out) (encGrps out)), (4, .val (.int .i64 (i : Nat))), (5, .lp 5 0), (6, .val (.bool (fstOf l i s))), (8, e8), (9, e9), (11, e11), (12, .val (.slice (encSubs l))), (13, .val (.int .i64 l.length)), (14, .val (.int .i64 (i : Nat))), (21, e21), (22, e22), (23, e23), (43, e43), (44, e44), (45, e45)], ts := T, lc := X } st (.blk 1 (.seq c54_68 (.loop c54_9 (.blk 0 (.seq c54_69 .nil))))) = some R := by
      intro e8 e9 e11 e21 e22 e23 e43 e44 e45 T X h8 h9 h11 h21 h22 h23 h43 h44 h45 hx5
      cases hq : fstOf l i s with
      | false =>
        rw [hq] at IH
        simp only [Bool.false_eq_true, if_false] at IH
        simp [-Int.natCast_add, h8, h9, h11, h21, h22, h23, h43, h44, h45, hw, -Int.not_le, -Int.not_lt, -Nat.not_le, -Nat.not_lt, ty3, ty4, ty28, ty49, ty67, ty70, ty71, ty76, hm, hl, hr, E54, e54_38, n54_25, n54_50, n54_8]
        refine IH _ _ _ _ _ _ _ _ _ _ _ _ _ _ ?_ ?_ ?_ ?_ ?_ ?_ ?_ ?_ ?_ ?_ ?_ ?_
        all_goals simp [h8, h9, h11, h21, h22, h23, h43, h44, h45]
      | true =>
        rw [hq] at IH
        simp only [if_true] at IH
        have kc := fun fr st => k45 s.filter hs fr st
        have hs1 := sizes_grps out
        have hs2 := grps_snoc out ⟨s.filter, cliOf l s⟩
        have b1 : (out.length + 1) * 48 ≤ 140737488355328 := by omega
        have b2 : out.length + 1 ≤ 140737488355328 := by omega
        rw [kof_snoc] at IH
        have HB : ∀ (CL : V) (e8 e11 e21 e22 e23 : E) (T : List (Nat × E)) (X : List (Nat × List V)), CLo CL (cliOf l s) → e8.Tame → e11.Tame → e21.Tame → e22.Tame → e23.Tame → lk X 9 = some [.slice (encPreds s.filter), CL] → evK gS fi54 c54_67 { ps := [(0, .val (.slice (encSubs l))), (2, .own 0 []), (3, .own (kof 2 out) (encGrps out)), (4, .val (.int .i64 (i : Nat))), (5, .lp 5 0), (6, .val (.bool true)), (8, e8), (9, .lp 9 0), (11, e11), (12, .val (.slice (encSubs l))), (13, .val (.int .i64 l.length)), (14, .val (.int .i64 (i : Nat))), (21, e21), (22, e22), (23, e23), (43, .val (.slice (encSubs l))), (44, .val (.int .i64 l.length)), (45, .val (.int .i64 l.length))], ts := T, lc := X } st (.blk 1 (.seq c54_68 (.loop c54_9 (.blk 0 (.seq c54_69 .nil))))) = some R := by
          intro CL e8 e11 e21 e22 e23 T X hc h8 h11 h21 h22 h23 hx9
          generalize cliOf l s = cl at *
          have en : encGrps [] = [] := rfl
          have en1 : encGrps ([] ++ [⟨s.filter, cl⟩]) = [.agg [.slice (encPreds s.filter), .slice (intVs cl)]] := rfl
          rcases hc with ⟨rfl, rfl⟩ | rfl
          · rw [show intVs [] = [] from rfl] at hs2 en1
            rcases kof_or 2 out with ⟨hk, rfl⟩ | hk
            · rw [hk, en]
              rw [en1] at IH
              simp [-Int.natCast_add, h8, h11, h21, h22, h23, hx9, hw, -Int.not_le, -Int.not_lt, -Nat.not_le, -Nat.not_lt, ty3, ty4, ty28, ty49, ty67, ty70, ty71, ty76, hm, hl, hr, E54, e54_67, e54_38, n54_25, n54_50, n54_8]
              refine IH _ _ _ _ _ _ _ _ _ _ _ _ _ _ ?_ ?_ ?_ ?_ ?_ ?_ ?_ ?_ ?_ ?_ ?_ ?_
              all_goals simp [h8, h11, h21, h22, h23]
            · rw [hk]
              simp [-Int.natCast_add, -List.append_assoc, h8, h11, h21, h22, h23, hx9, hw, hs1, hs2, b1, b2, -Int.not_le, -Int.not_lt, -Nat.not_le, -Nat.not_lt, ty3, ty4, ty28, ty49, ty67, ty70, ty71, ty76, hm, hl, hr, E54, e54_67, e54_38, n54_25, n54_50, n54_8]
              refine IH _ _ _ _ _ _ _ _ _ _ _ _ _ _ ?_ ?_ ?_ ?_ ?_ ?_ ?_ ?_ ?_ ?_ ?_ ?_
              all_goals simp [h8, h11, h21, h22, h23]
          · rcases kof_or 2 out with ⟨hk, rfl⟩ | hk
            · rw [hk, en]
              rw [en1] at IH
              simp [-Int.natCast_add, h8, h11, h21, h22, h23, hx9, hw, -Int.not_le, -Int.not_lt, -Nat.not_le, -Nat.not_lt, ty3, ty4, ty28, ty49, ty67, ty70, ty71, ty76, hm, hl, hr, E54, e54_67, e54_38, n54_25, n54_50, n54_8]
              refine IH _ _ _ _ _ _ _ _ _ _ _ _ _ _ ?_ ?_ ?_ ?_ ?_ ?_ ?_ ?_ ?_ ?_ ?_ ?_
              all_goals simp [h8, h11, h21, h22, h23]
            · rw [hk]
              simp [-Int.natCast_add, -List.append_assoc, h8, h11, h21, h22, h23, hx9, hw, hs1, hs2, b1, b2, -Int.not_le, -Int.not_lt, -Nat.not_le, -Nat.not_lt, ty3, ty4, ty28, ty49, ty67, ty70, ty71, ty76, hm, hl, hr, E54, e54_67, e54_38, n54_25, n54_50, n54_8]
              refine IH _ _ _ _ _ _ _ _ _ _ _ _ _ _ ?_ ?_ ?_ ?_ ?_ ?_ ?_ ?_ ?_ ?_ ?_ ?_
              all_goals simp [h8, h11, h21, h22, h23]
        have LB := fun CL e8 e11 e21 e22 e23 T X hc h8 h11 h21 h22 h23 hx5 hx9 => L54_50 l hl1 hl2 s hs i out (kof 2 out) st R (cliOf l s) HB l.length 0 [] CL e8 e11 e21 e22 e23 T X hc h8 h11 h21 h22 h23 hx5 hx9 (Nat.zero_le _) rfl (Nat.le_refl _) rfl
        rw [show ((0 : Nat) : Int) = 0 from rfl] at LB
        simp only [Sub.cells] at hx5
        simp [-Int.natCast_add, h8, h9, h11, h21, h22, h23, h43, h44, h45, hx5, kc, -Int.not_le, -Int.not_lt, -Nat.not_le, -Nat.not_lt, ty3, ty4, ty28, ty49, ty67, ty70, ty71, ty76, hm, hl, hr, E54, e54_38, n54_25, n54_50, n54_8]
        refine LB (.osl 0 []) _ _ _ _ _ _ _ (.inl ⟨rfl, rfl⟩) ?_ ?_ ?_ ?_ ?_ ?_ ?_
        all_goals simp [h8, h9, h11, h21, h22, h23, hx5]
    have LA := fun e8 e9 e11 e43 e44 e45 T X h8 h9 h11 h43 h44 h45 hx5 => L54_25 l hl1 hl2 s hs i out (kof 2 out) st R hi (fstOf l i s) HA i 0 true e8 e9 e11 e43 e44 e45 T X h8 h9 h11 h43 h44 h45 hx5 (Nat.zero_le _) rfl (by rw [List.drop_zero]; rfl)
    rw [show ((0 : Nat) : Int) = 0 from rfl] at LA
    have htk : (encSubs l).take i = encSubs (l.take i) := by simp [encSubs]
    have hsz := sizes_subs l
    have hi1 : (i : Int) ≤ (l.length : Int) := by omega
    have hi0 : (0 : Int) ≤ (i : Int) := by omega
    have hmin : min i l.length = i := by omega
    refine evK_loop c54_9 _ _ _ _ rfl ?_
    simp [-Int.natCast_add, h4, h5, h6, h8, h9, h11, h21, h22, h23, h43, h44, h45, hx, hxe, hlt, hlt2, htk, hsz, hi0, hi1, hmin, -Int.not_le, -Int.not_lt, -Nat.not_le, -Nat.not_lt, ty3, ty4, ty28, ty49, ty67, ty70, ty71, ty76, hm, hl, hr, E54, e54_38, n54_25, n54_50, n54_8]
    refine LA _ _ _ _ _ _ _ _ ?_ ?_ ?_ ?_ ?_ ?_ ?_
    all_goals simp [h8, h9, h11, h43, h44, h45]
set_option maxHeartbeats 8000000 in
theorem c54 (l : List Sub) (hl1 : ∀ x ∈ l, PSm x.filter) (hl2 : l.length ≤ 1000) (st : St) : EvF gS 54 [.slice (encSubs l)] st = some (.ret (.slice (encGrps (gof l))) none, st) := by
  refine EvF_start fi54_eq (fun x h => by cases h) m54 ?_
  rw [st54]
  have hm : fi54.marks = [1000000] := rfl
  have hl : fi54.locals = [5, 8, 9, 11] := rfl
  have hr : fi54.results = [.tmp 2] := rfl
  have L0 := fun e4 e5 e6 e8 e9 e11 e21 e22 e23 e43 e44 e45 T X h4 h5 h6 h8 h9 h11 h21 h22 h23 h43 h44 h45 => L54 l hl1 hl2 st l.length 0 [] e4 e5 e6 e8 e9 e11 e21 e22 e23 e43 e44 e45 T X h4 h5 h6 h8 h9 h11 h21 h22 h23 h43 h44 h45 (Nat.zero_le _) rfl (Nat.le_refl _)
  simp only [show ((0 : Nat) : Int) = 0 from rfl, List.drop_zero, show kof 2 ([] : List Grp) = 0 from rfl, show encGrps [] = [] from rfl] at L0
  show _ = some (Out.ret (V.slice (encGrps (gofG l 0 l []))) none, st)
  simp [L0, -Int.not_le, -Int.not_lt, -Nat.not_le, -Nat.not_lt, ty3, ty4, ty28, ty49, ty67, ty70, ty71, ty76, hm, hl, hr, E54, e54_67, e54_38, n54_25, n54_50, n54_8]
theorem k54 (l : List Sub) (hl1 : ∀ x ∈ l, PSm x.filter) (hl2 : l.length ≤ 1000) (fr : Fr) (st : St) : callStep gS (EvF gS) 54 [.slice (encSubs l)] fr st = some (.ok (.val (.slice (encGrps (gof l)))) (fr.map E.noMem) st) := by
  unfold callStep
  simp only [show gS.ext 54 = none from rfl, fi54_eq, show fi54.pure = false from rfl, Bool.false_eq_true, if_false, c54 l hl1 hl2 st, retE]
def fi53 : FI := { body := codeOf Try.f53, ntmps := 59, results := [.tmp 4], pers := [0, 1, 4, 5, 6, 7, 8, 9, 10, 11, 12], locals := [11], pure := false, marks := [1000000] }
theorem fi53_eq : gS.fn 53 = some fi53 := by kernel_rfl
theorem st53 (a0 a1 : V) : startFr fi53 [a0, a1] = { ps := [(0, .val a0), (1, .val a1), (4, .any), (5, .any), (6, .any), (7, .any), (8, .any), (9, .any), (10, .any), (11, .any), (12, .any)], ts := [], lc := [] } := rfl
def b53 : Code := mini (codeOf Try.f53)
def c53_14 : Code := .cond (.tmp 19) .skip (.exit 0)
def c53_12 : Code := .seq (codeN b53 535) c53_14
def c53_30 : Code := .cond (.tmp 30) .skip (.exit 2)
def c53_28 : Code := .seq (codeN b53 138391) c53_30
def c53_45 : Code := codeN b53 23895191
def c53_44 : Code := .cond (.tmp 47) c53_45 .skip
def c53_42 : Code := .seq (codeN b53 11312279) c53_44
def c53_40 : Code := .seq (codeN b53 5020823) c53_42
def c53_47 : Code := codeN b53 3972247
def c53_39 : Code := .seq c53_40 c53_47
def c53_37 : Code := .seq (codeN b53 1350807) c53_39
def c53_35 : Code := .seq (codeN b53 564375) c53_37
def c53_48 : Code := codeN b53 236695
def c53_33 : Code := .seq (.block 3 c53_35) c53_48
def c53_27 : Code := .seq c53_28 c53_33
def c53_26 : Code := .loop c53_27
def c53_25 : Code := .block 2 c53_26
def c53_23 : Code := .seq (codeN b53 11415) c53_25
def c53_21 : Code := .seq (codeN b53 5271) c53_23
def c53_19 : Code := .seq (codeN b53 2199) c53_21
def c53_49 : Code := codeN b53 919
theorem e53_49 : evK gS fi53 c53_49 fr st k = opsR gS fi53 [mv 20 7 3,
 op1 21 (.binOp .add 3 (.tmp 20) (.const (.int .i64 1)) 3) 3,
 asn 7 21 3] fr st k := evK_r 5 (by kernel_rfl)
def c53_17 : Code := .seq (.block 1 c53_19) c53_49
def c53_11 : Code := .seq c53_12 c53_17
def c53_10 : Code := .loop c53_11
def c53_9 : Code := .block 0 c53_10
def c53_7 : Code := .seq (codeN b53 39) c53_9
def c53_50 : Code := .seq (codeN b53 47) .ret
def c53_6 : Code := .seq c53_7 c53_50
def c53_4 : Code := .seq (codeN b53 11) c53_6
def c53_2 : Code := .seq (codeN b53 5) c53_4
def c53_0 : Code := .seq (codeN b53 2) c53_2
theorem E53 : evK gS fi53 c53_14 fr st k = condK gS fi53 (fr.op (.tmp 19)).bool? .skip (.exit 0) fr st k ∧
 (evK gS fi53 c53_12 fr st k = opsR gS fi53 [mv 18 7 3,
 op1 19 (.binOp .leq 3 (.tmp 18) (.const (.int .i64 6)) 3) 4] fr st (.seq c53_14 k)) ∧
 evK gS fi53 c53_30 fr st k = condK gS fi53 (fr.op (.tmp 30)).bool? .skip (.exit 2) fr st k ∧
 (evK gS fi53 c53_28 fr st k = opsR gS fi53 [mv 29 10 3,
 op1 30 (.binOp .gtr 3 (.tmp 29) (.const (.int .i64 0)) 3) 4] fr st (.seq c53_30 k)) ∧
 (evK gS fi53 c53_45 fr st k = opsR gS fi53 [mv 48 6 51,
 mv 49 12 3,
 ixa 50 51 48 49 0,
 ld 51 49 50 49,
 cal 52 51 [(.tmp 51)] [49] 49,
 op1 53 (.fieldAddr 70 (.tmp 11) 3) 0,
 sto 49 53 52] fr st k) ∧
 evK gS fi53 c53_44 fr st k = condK gS fi53 (fr.op (.tmp 47)).bool? c53_45 .skip fr st k ∧
 (evK gS fi53 c53_42 fr st k = opsR gS fi53 [mv 46 12 3,
 op1 47 (.binOp .lss 3 (.tmp 46) (.const (.int .i64 3)) 3) 4] fr st (.seq c53_44 k)) ∧
 (evK gS fi53 c53_40 fr st k = opsR gS fi53 [mv 44 0 29,
 cal 45 16 [(.tmp 44), (.const (.int .i64 6))] [29, 3] 3,
 asn 12 45 3] fr st (.seq c53_42 k)) ∧
 (evK gS fi53 c53_47 fr st k = opsR gS fi53 [mv 54 5 67,
 ld 55 70 11 70,
 op1 56 (.buildSlice 67 1 #[(0, (.tmp 55))]) 67,
 op1 57 (.call { callee := (.builtin .append), args := #[(.tmp 54), (.tmp 56)], argTypes := #[67, 67] }) 67,
 asn 5 57 67] fr st k) ∧
 evK gS fi53 c53_39 fr st k = evK gS fi53 c53_40 fr st (.seq c53_47 k) ∧
 (evK gS fi53 c53_37 fr st k = opsR gS fi53 [mv 38 7 3,
 mv 39 8 3,
 mv 40 9 3,
 mv 41 0 29,
 cal 42 35 [(.tmp 41)] [29] 49,
 op1 43 (.build 70 #[(0, (.tmp 38)), (1, (.tmp 39)), (2, (.tmp 40)), (3, (.tmp 42))]) 70,
 op1 11 (.alloc 70) 0,
 sto 70 11 43] fr st (.seq c53_39 k)) ∧
 (evK gS fi53 c53_35 fr st k = opsR gS fi53 [mv 33 9 3,
 op1 34 (.binOp .add 3 (.tmp 33) (.const (.int .i64 1)) 3) 3,
 mv 35 0 29,
 cal 36 16 [(.tmp 35), (.const (.int .i64 2))] [29, 3] 3,
 bop 37 .add 3 34 36 3 3,
 asn 9 37 3] fr st (.seq c53_37 k)) ∧
 (evK gS fi53 c53_48 fr st k = opsR gS fi53 [mv 31 10 3,
 op1 32 (.binOp .sub 3 (.tmp 31) (.const (.int .i64 1)) 3) 3,
 asn 10 32 3] fr st k) ∧
 evK gS fi53 c53_33 fr st k = evK gS fi53 c53_35 fr st (.blk 3 (.seq c53_48 k)) ∧
 evK gS fi53 c53_27 fr st k = evK gS fi53 c53_28 fr st (.seq c53_33 k) ∧
 evK gS fi53 c53_25 fr st k = evK gS fi53 c53_26 fr st (.blk 2 k) ∧
 (evK gS fi53 c53_23 fr st k = opsR gS fi53 [mv 27 0 29,
 cal 28 16 [(.tmp 27), (.const (.int .i64 4))] [29, 3] 3,
 asn 10 28 3] fr st (.seq c53_25 k)) ∧
 evK gS fi53 c53_21 fr st k = opsR gS fi53 [op1 9 (.assign (.const (.int .i64 0))) 3] fr st (.seq c53_23 k) ∧
 (evK gS fi53 c53_19 fr st k = opsR gS fi53 [mv 22 0 29,
 mv 23 1 28,
 len1 24 23 28 3,
 op1 25 (.binOp .add 3 (.tmp 24) (.const (.int .i64 1)) 3) 3,
 cal 26 16 [(.tmp 22), (.tmp 25)] [29, 3] 3,
 asn 8 26 3] fr st (.seq c53_21 k)) ∧
 evK gS fi53 c53_17 fr st k = evK gS fi53 c53_19 fr st (.blk 1 (.seq c53_49 k)) ∧
 evK gS fi53 c53_11 fr st k = evK gS fi53 c53_12 fr st (.seq c53_17 k) ∧
 evK gS fi53 c53_9 fr st k = evK gS fi53 c53_10 fr st (.blk 0 k) ∧
 evK gS fi53 c53_7 fr st k = opsR gS fi53 [op1 7 (.assign (.const (.int .i64 1))) 3] fr st (.seq c53_9 k) ∧
 (evK gS fi53 c53_50 fr st k = opsR gS fi53 [mv 58 5 67,
 asn 4 58 67] fr st (.seq .ret k)) ∧
 evK gS fi53 c53_6 fr st k = evK gS fi53 c53_7 fr st (.seq c53_50 k) ∧
 (evK gS fi53 c53_4 fr st k = opsR gS fi53 [mv 13 0 29,
 cal 14 35 [(.tmp 13)] [29] 49,
 mv 15 0 29,
 cal 16 35 [(.tmp 15)] [29] 49,
 op1 17 (.buildSlice 51 3 #[(0, (.tmp 14)), (1, (.tmp 16)), (2, (.const (.slice none 0 0)))]) 51,
 asn 6 17 51] fr st (.seq c53_6 k)) ∧
 evK gS fi53 c53_2 fr st k = opsR gS fi53 [op1 5 (.assign (.const (.slice none 0 0))) 67] fr st (.seq c53_4 k) ∧
 evK gS fi53 c53_0 fr st k = opsR gS fi53 [op1 4 (.assign (.const (.slice none 0 0))) 67] fr st (.seq c53_2 k) := ⟨rfl, evK_rs 4 rfl (by kernel_rfl), rfl, evK_rs 9 rfl (by kernel_rfl), evK_r 15 (by kernel_rfl), rfl, evK_rs 14 rfl (by kernel_rfl), evK_rs 13 rfl (by kernel_rfl), evK_r 16 (by kernel_rfl), rfl, evK_rs 12 rfl (by kernel_rfl), evK_rs 11 rfl (by kernel_rfl), evK_r 10 (by kernel_rfl), rfl, rfl, rfl, evK_rs 8 rfl (by kernel_rfl), evK_rs 7 rfl (by kernel_rfl), evK_rs 6 rfl (by kernel_rfl), rfl, rfl, rfl, evK_rs 3 rfl (by kernel_rfl), evK_rs 17 rfl (by kernel_rfl), rfl, evK_rs 2 rfl (by kernel_rfl), evK_rs 1 rfl (by kernel_rfl), evK_rs 0 rfl (by kernel_rfl)⟩
theorem m53 : mini fi53.body = c53_0 := by kernel_rfl
theorem n53_26 (fr : Fr) (st : St) (k : Kt) : nextK gS fi53 (.loop c53_27 k) .normal fr st = evK gS fi53 c53_26 fr st k := rfl
theorem n53_10 (fr : Fr) (st : St) (k : Kt) : nextK gS fi53 (.loop c53_11 k) .normal fr st = evK gS fi53 c53_10 fr st k := rfl
set_option maxHeartbeats 8000000 in
theorem L53_26 (l : List Int) (a id : Nat) (ha : a < 549755813888) (st : St) (h : FeedOk st id) (ps : List Int) (fs : List (List Pred)) (hfs : ∀ f ∈ fs, PSm f) (hfl : fs.length = 3) (c home : Int) (R : Out × St) : ∀ (r j d : Nat) (num : Int) (out : List Sub) (e11 e12 : E) (T : List (Nat × E)) (X : List (Nat × List V)) (h11 : e11.Tame) (h12 : e12.Tame), out.length + r < 1000 → 0 ≤ num → num + 2 * r < 1000000 → j + 36 * r < 549755800000 →
    (∀ e9 e11 e12 T X, e9.Tame → e11.Tame → e12.Tame → evK gS fi53 c53_49 { ps := [(0, .val (.ptr id 0)), (1, .val (.slice (intVs ps))), (4, .own 0 []), (5, .own (kof 4 (subsI l a fs c home r num j d out).1) (encSubs (subsI l a fs c home r num j d out).1)), (6, .own 1 (encPredss fs)), (7, .val (.int .i64 c)), (8, .val (.int .i64 home)), (9, e9), (10, .val (.int .i64 0)), (11, e11), (12, e12)], ts := T, lc := X } (setF (dd st (subsI l a fs c home r num j d out).2.2) id l (nA l a (subsI l a fs c home r num j d out).2.1)) (.loop c53_11 (.blk 0 (.seq c53_50 .nil))) = some R) →
    evK gS fi53 c53_26 { ps := [(0, .val (.ptr id 0)), (1, .val (.slice (intVs ps))), (4, .own 0 []), (5, .own (kof 4 out) (encSubs out)), (6, .own 1 (encPredss fs)), (7, .val (.int .i64 c)), (8, .val (.int .i64 home)), (9, .val (.int .i64 num)), (10, .val (.int .i64 (r : Nat))), (11, e11), (12, e12)], ts := T, lc := X } (setF (dd st d) id l (nA l a j)) (.blk 2 (.blk 1 (.seq c53_49 (.loop c53_11 (.blk 0 (.seq c53_50 .nil)))))) = some R := by
  intro r
  have hm : fi53.marks = [1000000] := rfl
  have hl : fi53.locals = [11] := rfl
  have hr : fi53.results = [.tmp 4] := rfl
  induction r with
  | zero =>
    intro j d num out e11 e12 T X h11 h12 hol hn0 hn1 hj H
    rw [show subsI l a fs c home 0 num j d out = (out, j, d) from rfl] at H
    refine evK_loop c53_27 _ _ _ _ rfl ?_
    rcases kof_or 4 out with ⟨hk, rfl⟩ | hk
    · have en : encSubs [] = [] := rfl
      rw [hk, en] at H ⊢
      simp [-St.obj, -St.set, h11, h12, -Int.not_le, -Int.not_lt, -Nat.not_le, -Nat.not_lt, ty3, ty4, ty28, ty29, ty49, ty51, ty67, ty70, hm, hl, hr, E53, n53_26, n53_10]
      exact H _ _ _ _ _ (tame_val _) h11 h12
    · rw [hk] at H ⊢
      simp [-St.obj, -St.set, h11, h12, -Int.not_le, -Int.not_lt, -Nat.not_le, -Nat.not_lt, ty3, ty4, ty28, ty29, ty49, ty51, ty67, ty70, hm, hl, hr, E53, n53_26, n53_10]
      exact H _ _ _ _ _ (tame_val _) h11 h12
  | succ r ih =>
    intro j d num out e11 e12 T X h11 h12 hol hn0 hn1 hj H
    have hb2 := fd_bound l a j (n := 2) (by omega)
    have k1 := fun fr => k16 l a j id 2 fr (dd st d) (h.dd d) ha (by omega) (by omega)
    have k2 := fun fr => k35 l a (j + 1) id fr (dd st d) (h.dd d) ha (by omega)
    rw [dd_dd] at k2
    have hfa := filterV_asks l a (j + 1)
    have hff := filterV_ffv l a (j + 1)
    simp only [subsI] at H
    have k3 := fun fr => k16 l a (filterV l a (j + 1)).2.1 id 6 fr (dd st (d + (filterV l a (j + 1)).2.2)) (h.dd _) ha (by omega) (by omega)
    have hb6 := fd_bound l a (filterV l a (j + 1)).2.1 (n := 6) (by omega)
    have IH := fun out' (ho : out'.length = out.length + 1) e11 e12 T X h11 h12 => ih ((filterV l a (j + 1)).2.1 + 1) (d + (filterV l a (j + 1)).2.2) (num + 1 + fd l a j 2) out' e11 e12 T X h11 h12 (by omega) (by omega) (by omega) (by omega)
    generalize filterV l a (j + 1) = F at *
    obtain ⟨f, J, D⟩ := F
    simp only at k2 k3 hfa hff hb6 H IH
    have hpf := psm_ffv hff
    generalize hz : fd l a J 6 = z at *
    generalize fd l a j 2 = y at *
    have hw1 : IntKind.wrap .i64 (num + 1) = num + 1 := wrap64 (by omega) (by omega)
    have hw2 : IntKind.wrap .i64 (num + 1 + y) = num + 1 + y := wrap64 (by omega) (by omega)
    have hw3 : IntKind.wrap .i64 (((r + 1 : Nat) : Int) - 1) = (r : Int) := by rw [wrap64 (by omega) (by omega)]; omega
    have hpos : (0 : Int) < ((r + 1 : Nat) : Int) := by omega
    have hs1 := sizes_subs out
    have b1 : (out.length + 1) * 48 ≤ 140737488355328 := by omega
    have b2 : out.length + 1 ≤ 140737488355328 := by omega
    refine evK_loop c53_27 _ _ _ _ rfl ?_
    by_cases hz3 : z < 3
    · rw [if_pos hz3] at H
      obtain ⟨q, rfl⟩ : ∃ q : Nat, z = (q : Int) := ⟨z.toNat, by omega⟩
      rw [Int.toNat_natCast] at H
      have hq : q < fs.length := by omega
      have hqi : (q : Int) < (fs.length : Int) := by omega
      obtain ⟨x, hx⟩ : ∃ x, fs[q]? = some x := ⟨fs[q]'hq, List.getElem?_eq_getElem hq⟩
      have hxe : fs[q]'hq = x := (List.getElem?_eq_some_iff.1 hx).2
      have hgd : fs.getD q [] = x := by rw [List.getD_eq_getElem?_getD, hx]; rfl
      rw [hgd] at H
      have hpx := hfs x (List.mem_of_getElem? hx)
      have k4 := fun fr st => k51 x hpx fr st
      have XX := IH (out ++ [⟨c, home, num + 1 + y, x⟩]) (by simp)
      have IHx := fun e11 e12 T X h11 h12 => XX e11 e12 T X h11 h12 H
      rw [kof_snoc] at IHx
      have hs2 := subs_snoc out ⟨c, home, num + 1 + y, x⟩
      have en : encSubs [] = [] := rfl
      have en1 : encSubs ([] ++ [⟨c, home, num + 1 + y, x⟩]) = [.agg [.int .i64 c, .int .i64 home, .int .i64 (num + 1 + y), .slice (encPreds x)]] := rfl
      have hkk : ¬ (kof 13 x = 0 ∧ ¬ encPreds x = []) := by
        unfold kof; split
        · rename_i h; rw [h]; simp [encPreds]
        · simp
      generalize kof 13 x = kx at *
      rcases kof_or 4 out with ⟨hk, rfl⟩ | hk
      · rw [hk, en]
        rw [en1] at IHx
        simp [-Int.natCast_add, -St.obj, -St.set, h11, h12, k1, k2, k3, k4, hw1, hw2, hw3, hpos, hz3, hq, hqi, hx, hxe, hkk, -Int.not_le, -Int.not_lt, -Nat.not_le, -Nat.not_lt, ty3, ty4, ty28, ty29, ty49, ty51, ty67, ty70, hm, hl, hr, E53, n53_26, n53_10]
        refine IHx _ _ _ _ ?_ ?_
        all_goals simp [h11, h12]
      · rw [hk]
        simp [-Int.natCast_add, -List.append_assoc, -St.obj, -St.set, h11, h12, k1, k2, k3, k4, hw1, hw2, hw3, hpos, hz3, hq, hqi, hx, hxe, hkk, hs1, hs2, b1, b2, -Int.not_le, -Int.not_lt, -Nat.not_le, -Nat.not_lt, ty3, ty4, ty28, ty29, ty49, ty51, ty67, ty70, hm, hl, hr, E53, n53_26, n53_10]
        refine IHx _ _ _ _ ?_ ?_
        all_goals simp [h11, h12]
    · rw [if_neg hz3] at H
      have XX := IH (out ++ [⟨c, home, num + 1 + y, f⟩]) (by simp)
      have IHx := fun e11 e12 T X h11 h12 => XX e11 e12 T X h11 h12 H
      rw [kof_snoc] at IHx
      have hs2 := subs_snoc out ⟨c, home, num + 1 + y, f⟩
      have en : encSubs [] = [] := rfl
      have en1 : encSubs ([] ++ [⟨c, home, num + 1 + y, f⟩]) = [.agg [.int .i64 c, .int .i64 home, .int .i64 (num + 1 + y), .slice (encPreds f)]] := rfl
      rcases kof_or 4 out with ⟨hk, rfl⟩ | hk
      · rw [hk, en]
        rw [en1] at IHx
        simp [-Int.natCast_add, -St.obj, -St.set, h11, h12, k1, k2, k3, hw1, hw2, hw3, hpos, hz3, -Int.not_le, -Int.not_lt, -Nat.not_le, -Nat.not_lt, ty3, ty4, ty28, ty29, ty49, ty51, ty67, ty70, hm, hl, hr, E53, n53_26, n53_10]
        refine IHx _ _ _ _ ?_ ?_
        all_goals simp [h11, h12]
      · rw [hk]
        simp [-Int.natCast_add, -List.append_assoc, -St.obj, -St.set, h11, h12, k1, k2, k3, hw1, hw2, hw3, hpos, hz3, hs1, hs2, b1, b2, -Int.not_le, -Int.not_lt, -Nat.not_le, -Nat.not_lt, ty3, ty4, ty28, ty29, ty49, ty51, ty67, ty70, hm, hl, hr, E53, n53_26, n53_10]
        refine IHx _ _ _ _ ?_ ?_
        all_goals simp [h11, h12]
set_option maxHeartbeats 8000000 in
theorem L53_10 (l : List Int) (a id : Nat) (ha : a < 549755813888) (st : St) (h : FeedOk st id) (ps : List Int) (fs : List (List Pred)) (hfs : ∀ f ∈ fs, PSm f) (hfl : fs.length = 3) (hps : ps.length < 1000) : ∀ (r j d : Nat) (c : Int) (out : List Sub) (e8 e9 e10 e11 e12 : E) (T : List (Nat × E)) (X : List (Nat × List V)) (h8 : e8.Tame) (h9 : e9.Tame) (h10 : e10.Tame) (h11 : e11.Tame) (h12 : e12.Tame), r ≤ 6 → c = 7 - r → out.length ≤ 3 * (6 - r) → j + 110 * r < 549755700000 →
    evK gS fi53 c53_10 { ps := [(0, .val (.ptr id 0)), (1, .val (.slice (intVs ps))), (4, .own 0 []), (5, .own (kof 4 out) (encSubs out)), (6, .own 1 (encPredss fs)), (7, .val (.int .i64 c)), (8, e8), (9, e9), (10, e10), (11, e11), (12, e12)], ts := T, lc := X } (setF (dd st d) id l (nA l a j)) (.blk 0 (.seq c53_50 .nil)) = some (.ret (.slice (encSubs (subsO l a ps.length fs r c j d out).1)) none, setF (dd st (subsO l a ps.length fs r c j d out).2.2) id l (nA l a (subsO l a ps.length fs r c j d out).2.1)) := by
  intro r
  have hm : fi53.marks = [1000000] := rfl
  have hl : fi53.locals = [11] := rfl
  have hr : fi53.results = [.tmp 4] := rfl
  induction r with
  | zero =>
    intro j d c out e8 e9 e10 e11 e12 T X h8 h9 h10 h11 h12 hr6 hc ho hj
    rw [show subsO l a ps.length fs 0 c j d out = (out, j, d) from rfl]
    obtain rfl : c = 7 := by omega
    have hz := frz_slice (xs := encSubs out) (flats_subs out)
    refine evK_loop c53_11 _ _ _ _ rfl ?_
    rcases kof_or 4 out with ⟨hk, rfl⟩ | hk
    · have en : encSubs [] = [] := rfl
      rw [en] at hz
      rw [hk, en]
      simp [-St.obj, -St.set, h8, h9, h10, h11, h12, hz, -Int.not_le, -Int.not_lt, -Nat.not_le, -Nat.not_lt, ty3, ty4, ty28, ty29, ty49, ty51, ty67, ty70, hm, hl, hr, E53, e53_49, n53_26, n53_10]
    · rw [hk]
      simp [-St.obj, -St.set, h8, h9, h10, h11, h12, hz, -Int.not_le, -Int.not_lt, -Nat.not_le, -Nat.not_lt, ty3, ty4, ty28, ty29, ty49, ty51, ty67, ty70, hm, hl, hr, E53, e53_49, n53_26, n53_10]
  | succ r ih =>
    intro j d c out e8 e9 e10 e11 e12 T X h8 h9 h10 h11 h12 hr6 hc ho hj
    have k1 := fun fr => k16 l a j id ((ps.length : Int) + 1) fr (dd st d) (h.dd d) ha (by omega) (by omega)
    have k2 := fun fr => k16 l a (j + 1) id 4 fr (dd st d) (h.dd d) ha (by omega) (by omega)
    have hb := fd_bound l a (j + 1) (n := 4) (by omega)
    simp only [subsO]
    have hw1 : IntKind.wrap .i64 ((ps.length : Int) + 1) = (ps.length : Int) + 1 := wrap64 (by omega) (by omega)
    have hwc : IntKind.wrap .i64 (c + 1) = c + 1 := wrap64 (by omega) (by omega)
    have hc6 : c ≤ 6 := by omega
    generalize fd l a j (ps.length + 1) = home at *
    generalize hz : fd l a (j + 1) 4 = z at *
    obtain ⟨q, rfl⟩ : ∃ q : Nat, z = (q : Int) := ⟨z.toNat, by omega⟩
    rw [Int.toNat_natCast]
    have hsa := subsI_asks l a fs c home q 0 (j + 2) d out
    have LI := fun R e11 e12 T X h11 h12 => L53_26 l a id ha st h ps fs hfs hfl c home R q (j + 2) d 0 out e11 e12 T X h11 h12 (by omega) (by omega) (by omega) (by omega)
    generalize subsI l a fs c home q 0 (j + 2) d out = I at *
    obtain ⟨out2, J, D⟩ := I
    simp only at hsa LI ⊢
    have IH := fun e8 e9 e10 e11 e12 T X h8 h9 h10 h11 h12 => ih J D (c + 1) out2 e8 e9 e10 e11 e12 T X h8 h9 h10 h11 h12 (by omega) (by omega) (by omega) (by omega)
    generalize hR : (Out.ret (V.slice (encSubs (subsO l a ps.length fs r (c + 1) J D out2).1)) none, setF (dd st (subsO l a ps.length fs r (c + 1) J D out2).2.2) id l (nA l a (subsO l a ps.length fs r (c + 1) J D out2).2.1)) = R at IH ⊢
    have H49 : ∀ e9 e11 e12 T X, e9.Tame → e11.Tame → e12.Tame → evK gS fi53 c53_49 { ps := [(0, .val (.ptr id 0)), (1, .val (.slice (intVs ps))), (4, .own 0 []), (5, .own (kof 4 out2) (encSubs out2)), (6, .own 1 (encPredss fs)), (7, .val (.int .i64 c)), (8, .val (.int .i64 home)), (9, e9), (10, .val (.int .i64 0)), (11, e11), (12, e12)], ts := T, lc := X } (setF (dd st D) id l (nA l a J)) (.loop c53_11 (.blk 0 (.seq c53_50 .nil))) = some R := by
      intro e9 e11 e12 T X h9 h11 h12
      rcases kof_or 4 out2 with ⟨hk, rfl⟩ | hk
      · have en : encSubs [] = [] := rfl
        rw [hk, en] at IH ⊢
        simp [-Int.natCast_add, -St.obj, -St.set, h9, h11, h12, hwc, -Int.not_le, -Int.not_lt, -Nat.not_le, -Nat.not_lt, ty3, ty4, ty28, ty29, ty49, ty51, ty67, ty70, hm, hl, hr, E53, e53_49, n53_26, n53_10]
        exact IH _ _ _ _ _ _ _ (tame_val _) h9 (tame_val _) h11 h12
      · rw [hk] at IH ⊢
        simp [-Int.natCast_add, -St.obj, -St.set, h9, h11, h12, hwc, -Int.not_le, -Int.not_lt, -Nat.not_le, -Nat.not_lt, ty3, ty4, ty28, ty29, ty49, ty51, ty67, ty70, hm, hl, hr, E53, e53_49, n53_26, n53_10]
        exact IH _ _ _ _ _ _ _ (tame_val _) h9 (tame_val _) h11 h12
    have LL := fun e11 e12 T X h11 h12 => LI R e11 e12 T X h11 h12 H49
    refine evK_loop c53_11 _ _ _ _ rfl ?_
    rcases kof_or 4 out with ⟨hk, rfl⟩ | hk
    · have en : encSubs [] = [] := rfl
      rw [hk, en] at LL ⊢
      simp [-Int.natCast_add, -St.obj, -St.set, h8, h9, h10, h11, h12, k1, k2, hw1, hc6, -Int.not_le, -Int.not_lt, -Nat.not_le, -Nat.not_lt, ty3, ty4, ty28, ty29, ty49, ty51, ty67, ty70, hm, hl, hr, E53, e53_49, n53_26, n53_10]
      exact LL _ _ _ _ h11 h12
    · rw [hk] at LL ⊢
      simp [-Int.natCast_add, -St.obj, -St.set, h8, h9, h10, h11, h12, k1, k2, hw1, hc6, -Int.not_le, -Int.not_lt, -Nat.not_le, -Nat.not_lt, ty3, ty4, ty28, ty29, ty49, ty51, ty67, ty70, hm, hl, hr, E53, e53_49, n53_26, n53_10]
      exact LL _ _ _ _ h11 h12
set_option maxHeartbeats 8000000 in
theorem c53 (l : List Int) (a j id : Nat) (st : St) (h : FeedOk st id) (ha : a < 549755813888) (hj : j < 549755600000) (ps : List Int) (hps : ps.length < 1000) :
    EvF gS 53 [.ptr id 0, .slice (intVs ps)] (setF st id l (nA l a j)) = some (.ret (.slice (encSubs (subsV l a j ps.length).1)) none, setF (dd st (subsV l a j ps.length).2.2) id l (nA l a (subsV l a j ps.length).2.1)) := by
  refine EvF_start fi53_eq (fun x h => by cases h) m53 ?_
  rw [st53]
  have hm : fi53.marks = [1000000] := rfl
  have hl : fi53.locals = [11] := rfl
  have hr : fi53.results = [.tmp 4] := rfl
  have k1 := fun fr => k35 l a j id fr st h ha (by omega)
  have a1 := filterV_asks l a j
  have k2 := fun fr => k35 l a (filterV l a j).2.1 id fr (dd st (filterV l a j).2.2) (h.dd _) ha (by omega)
  rw [dd_dd] at k2
  have a2 := filterV_asks l a (filterV l a j).2.1
  have q1 := filterV_ffv l a j
  have q2 := filterV_ffv l a (filterV l a j).2.1
  unfold subsV subsF
  generalize filterV l a (filterV l a j).2.1 = B at *
  generalize filterV l a j = A at *
  obtain ⟨f1, J1, D1⟩ := A
  obtain ⟨f2, J2, D2⟩ := B
  simp only at k1 k2 a1 a2 q1 q2 ⊢
  have hfs : ∀ f ∈ [f1, f2, []], PSm f := fun f hf => by
    simp at hf
    rcases hf with rfl | rfl | rfl
    · exact psm_ffv q1
    · exact psm_ffv q2
    · exact ⟨by simp, by simp⟩
  have LL := fun e8 e9 e10 e11 e12 T X h8 h9 h10 h11 h12 => L53_10 l a id ha st h ps [f1, f2, []] hfs rfl hps 6 J2 (D1 + D2) 1 [] e8 e9 e10 e11 e12 T X h8 h9 h10 h11 h12 (Nat.le_refl _) rfl (Nat.le_refl _) (by omega)
  rw [show kof 4 ([] : List Sub) = 0 from rfl, show encSubs [] = [] from rfl, show encPredss [f1, f2, []] = [.slice (encPreds f1), .slice (encPreds f2), .slice []] from rfl] at LL
  generalize hR : (Out.ret (V.slice (encSubs (subsO l a ps.length [f1, f2, []] 6 1 J2 (D1 + D2) []).1)) none, setF (dd st (subsO l a ps.length [f1, f2, []] 6 1 J2 (D1 + D2) []).2.2) id l (nA l a (subsO l a ps.length [f1, f2, []] 6 1 J2 (D1 + D2) []).2.1)) = R at LL ⊢
  simp [-St.obj, -St.set, k1, k2, -Int.not_le, -Int.not_lt, -Nat.not_le, -Nat.not_lt, ty3, ty4, ty28, ty29, ty49, ty51, ty67, ty70, hm, hl, hr, E53, e53_49, n53_26, n53_10]
  exact LL _ _ _ _ _ _ _ tame_any tame_any tame_any tame_any tame_any
theorem k53 (l : List Int) (a j id : Nat) (fr : Fr) (st : St) (h : FeedOk st id) (ha : a < 549755813888) (hj : j < 549755600000) (ps : List Int) (hps : ps.length < 1000) :
    callStep gS (EvF gS) 53 [.ptr id 0, .slice (intVs ps)] fr (setF st id l (nA l a j)) = some (.ok (.val (.slice (encSubs (subsV l a j ps.length).1))) (fr.map E.noMem) (setF (dd st (subsV l a j ps.length).2.2) id l (nA l a (subsV l a j ps.length).2.1))) := by
  unfold callStep
  simp only [show gS.ext 53 = none from rfl, fi53_eq, show fi53.pure = false from rfl, Bool.false_eq_true, if_false, c53 l a j id st h ha hj ps hps, retE]
end
end Go.Proofs.Ytclpbfkbpcjejaa
namespace Go.Ab
open Go
set_option linter.unusedVariables false
set_option linter.unusedSimpArgs false
set_option linter.unnecessarySimpa false
theorem vsame_symm {a b : Val} (h : vsame a b = true) : vsame b a = true := by
  simp only [vsame, Bool.and_eq_true, decide_eq_true_eq] at h ⊢
  obtain ⟨⟨⟨⟨h1, h2⟩, h3⟩, h4⟩, h5⟩ := h
  exact ⟨⟨⟨⟨h1.symm, h2.symm⟩, h3.symm⟩, h4.symm⟩, h5.symm⟩
theorem vsame_trans {a b c : Val} (h : vsame a b = true) (k : vsame b c = true) : vsame a c = true := by
  simp only [vsame, Bool.and_eq_true, decide_eq_true_eq] at h k ⊢
  obtain ⟨⟨⟨⟨h1, h2⟩, h3⟩, h4⟩, h5⟩ := h
  obtain ⟨⟨⟨⟨k1, k2⟩, k3⟩, k4⟩, k5⟩ := k
  exact ⟨⟨⟨⟨h1.trans k1, h2.trans k2⟩, h3.trans k3⟩, h4.trans k4⟩, h5.trans k5⟩
theorem sames_symm : ∀ {a b : List Val}, sames a b = true → sames b a = true
  | [], [], _ => rfl
  | x :: r, y :: s, h => by
    simp only [sames, Bool.and_eq_true] at h ⊢
    exact ⟨vsame_symm h.1, sames_symm h.2⟩
  | [], _ :: _, h => by simp [sames] at h
  | _ :: _, [], h => by simp [sames] at h
theorem sames_trans : ∀ {a b c : List Val}, sames a b = true → sames b c = true → sames a c = true
  | [], [], [], _, _ => rfl
  | x :: r, y :: s, z :: t, h, k => by
    simp only [sames, Bool.and_eq_true] at h k ⊢
    exact ⟨vsame_trans h.1 k.1, sames_trans h.2 k.2⟩
  | [], _ :: _, _, h, _ => by simp [sames] at h
  | _ :: _, [], _, h, _ => by simp [sames] at h
  | [], [], _ :: _, _, k => by simp [sames] at k
  | _ :: _, _ :: _, [], _, k => by simp [sames] at k
theorem psame_symm {a b : Pred} (h : psame a b = true) : psame b a = true := by
  simp only [psame, Bool.and_eq_true, decide_eq_true_eq] at h ⊢
  obtain ⟨⟨⟨⟨h1, h2⟩, h3⟩, h4⟩, h5⟩ := h
  exact ⟨⟨⟨⟨h1.symm, h2.symm⟩, vsame_symm h3⟩, vsame_symm h4⟩, sames_symm h5⟩
theorem psame_trans {a b c : Pred} (h : psame a b = true) (k : psame b c = true) : psame a c = true := by
  simp only [psame, Bool.and_eq_true, decide_eq_true_eq] at h k ⊢
  obtain ⟨⟨⟨⟨h1, h2⟩, h3⟩, h4⟩, h5⟩ := h
  obtain ⟨⟨⟨⟨k1, k2⟩, k3⟩, k4⟩, k5⟩ := k
  exact ⟨⟨⟨⟨h1.trans k1, h2.trans k2⟩, vsame_trans h3 k3⟩, vsame_trans h4 k4⟩, sames_trans h5 k5⟩
theorem psame_rfl (p : Pred) : psame p p = true := by simp [psame, vsame_refl, sames_refl]
theorem fsames_rfl : ∀ l : List Pred, fsames l l = true
  | [] => rfl
  | a :: r => by simp [fsames, psame_rfl, fsames_rfl r]
theorem fsames_symm : ∀ {a b : List Pred}, fsames a b = true → fsames b a = true
  | [], [], _ => rfl
  | x :: r, y :: s, h => by
    simp only [fsames, Bool.and_eq_true] at h ⊢
    exact ⟨psame_symm h.1, fsames_symm h.2⟩
  | [], _ :: _, h => by simp [fsames] at h
  | _ :: _, [], h => by simp [fsames] at h
theorem fsames_trans : ∀ {a b c : List Pred}, fsames a b = true → fsames b c = true → fsames a c = true
  | [], [], [], _, _ => rfl
  | x :: r, y :: s, z :: t, h, k => by
    simp only [fsames, Bool.and_eq_true] at h k ⊢
    exact ⟨psame_trans h.1 k.1, fsames_trans h.2 k.2⟩
  | [], _ :: _, _, h, _ => by simp [fsames] at h
  | _ :: _, [], _, h, _ => by simp [fsames] at h
  | [], [], _ :: _, _, k => by simp [fsames] at k
  | _ :: _, _ :: _, [], _, k => by simp [fsames] at k
theorem fsame_iff {a b : List Pred} : fsame a b = true ↔ fsames a b = true := by
  unfold fsame
  rw [Bool.and_eq_true]
  exact ⟨fun h => h.2, fun h => ⟨by simpa using fsames_len h, h⟩⟩
theorem fsame_rfl (f : List Pred) : fsame f f = true := fsame_iff.2 (fsames_rfl f)
theorem fsame_symm {a b : List Pred} (h : fsame a b = true) : fsame b a = true := fsame_iff.2 (fsames_symm (fsame_iff.1 h))
theorem fsame_trans {a b c : List Pred} (h : fsame a b = true) (k : fsame b c = true) : fsame a c = true := fsame_iff.2 (fsames_trans (fsame_iff.1 h) (fsame_iff.1 k))
theorem fold_and {α : Type} (P : α → Bool) : ∀ (l : List α) (b : Bool), l.foldl (fun b t => b && !P t) b = (b && l.all fun t => !P t)
  | [], b => by simp
  | x :: r, b => by rw [List.foldl_cons, fold_and P r, List.all_cons, Bool.and_assoc]
theorem fstOf_iff {l : List Sub} {i : Nat} {s : Sub} : fstOf l i s = true ↔ ∀ k t, k < i → l[k]? = some t → fsame s.filter t.filter = false := by
  unfold fstOf
  rw [fold_and, Bool.true_and, List.all_eq_true]
  constructor
  · intro h k t hk ht
    have := h t (by
      refine List.mem_of_getElem? (i := k) ?_
      rw [List.getElem?_take, if_pos hk]; exact ht)
    simpa using this
  · intro h t ht
    obtain ⟨k, hk⟩ := List.mem_iff_getElem?.1 ht
    rw [List.getElem?_take] at hk
    split at hk
    · rename_i hlt
      simp [h k t hlt hk]
    · cases hk
theorem gofG_spec (l : List Sub) : ∀ (r : List Sub) (i : Nat) (out : List Grp), l.drop i = r → ∀ x, x ∈ gofG l i r out ↔ x ∈ out ∨ ∃ k s, i ≤ k ∧ l[k]? = some s ∧ fstOf l k s = true ∧ x = ⟨s.filter, cliOf l s⟩
  | [], i, out, hd, x => by
    unfold gofG
    constructor
    · exact .inl
    · rintro (h | ⟨k, s, h1, h2, _⟩)
      · exact h
      · have := (List.getElem?_eq_some_iff.1 h2).1
        have : l.length ≤ i := by simpa using hd
        omega
  | s :: r, i, out, hd, x => by
    have hi : l[i]? = some s := by
      have := congrArg (fun q => q[0]?) hd
      simpa using this
    have hd' : l.drop (i + 1) = r := by
      have := congrArg List.tail hd
      simpa using this
    unfold gofG
    rw [gofG_spec l r (i + 1) _ hd' x]
    constructor
    · rintro (h | ⟨k, t, h1, h2, h3⟩)
      · split at h
        · rename_i hf
          rcases List.mem_append.1 h with h | h
          · exact .inl h
          · simp at h
            exact .inr ⟨i, s, Nat.le_refl _, hi, hf, h⟩
        · exact .inl h
      · exact .inr ⟨k, t, by omega, h2, h3⟩
    · rintro (h | ⟨k, t, h1, h2, h3, h4⟩)
      · left; split
        · exact List.mem_append_left _ h
        · exact h
      · by_cases hk : k = i
        · subst hk
          rw [hi] at h2; cases h2
          left; rw [if_pos h3]; simp [h4]
        · exact .inr ⟨k, t, by omega, h2, h3, h4⟩
theorem gof_mem {l : List Sub} {x : Grp} : x ∈ gof l ↔ ∃ k s, l[k]? = some s ∧ fstOf l k s = true ∧ x = ⟨s.filter, cliOf l s⟩ := by
  unfold gof
  rw [gofG_spec l l 0 [] rfl x]
  constructor
  · rintro (h | ⟨k, s, _, h⟩)
    · simp at h
    · exact ⟨k, s, h⟩
  · rintro ⟨k, s, h⟩; exact .inr ⟨k, s, Nat.zero_le _, h⟩
theorem gofG_len (l : List Sub) : ∀ (r : List Sub) (i : Nat) (out : List Grp), (gofG l i r out).length ≤ out.length + r.length
  | [], _, _ => by simp [gofG]
  | s :: r, i, out => by
    unfold gofG
    have := gofG_len l r (i + 1) (if fstOf l i s then out ++ [⟨s.filter, cliOf l s⟩] else out)
    split at this
    · rename_i h; rw [if_pos h]; simp at this ⊢; omega
    · rename_i h; rw [if_neg h]; simp at this ⊢; omega
theorem gof_len (l : List Sub) : (gof l).length ≤ l.length := by
  have := gofG_len l l 0 []
  unfold gof
  simpa using this
theorem cli_mem (s : Sub) : ∀ (l : List Sub) (acc : List Int) (c : Int), c ∈ l.foldl (cliStep s) acc ↔ c ∈ acc ∨ ∃ t ∈ l, fsame s.filter t.filter = true ∧ t.client = c
  | [], acc, c => by simp
  | t :: r, acc, c => by
    rw [List.foldl_cons, cli_mem s r]
    unfold cliStep
    split
    · rename_i h
      rw [layI_mem]
      constructor
      · rintro ((rfl | h1) | ⟨u, hu, h1⟩)
        · exact .inr ⟨t, by simp, h, rfl⟩
        · exact .inl h1
        · exact .inr ⟨u, by simp [hu], h1⟩
      · rintro (h1 | ⟨u, hu, h1, h2⟩)
        · exact .inl (.inr h1)
        · rcases List.mem_cons.1 hu with rfl | hu
          · exact .inl (.inl h2.symm)
          · exact .inr ⟨u, hu, h1, h2⟩
    · rename_i h
      constructor
      · rintro (h1 | ⟨u, hu, h1⟩)
        · exact .inl h1
        · exact .inr ⟨u, by simp [hu], h1⟩
      · rintro (h1 | ⟨u, hu, h1, h2⟩)
        · exact .inl h1
        · rcases List.mem_cons.1 hu with rfl | hu
          · exact absurd h1 h
          · exact .inr ⟨u, hu, h1, h2⟩
theorem cliOf_mem {l : List Sub} {s : Sub} {c : Int} : c ∈ cliOf l s ↔ ∃ t ∈ l, fsame s.filter t.filter = true ∧ t.client = c := by
  unfold cliOf; rw [cli_mem]; simp
theorem cli_len (s : Sub) : ∀ (l : List Sub) (acc : List Int), (l.foldl (cliStep s) acc).length ≤ acc.length + l.length
  | [], acc => by simp
  | t :: r, acc => by
    rw [List.foldl_cons]
    have := cli_len s r (cliStep s acc t)
    have h2 : (cliStep s acc t).length ≤ acc.length + 1 := by
      unfold cliStep; split
      · exact layI_len _ _
      · omega
    simp only [List.length_cons]; omega
theorem cliOf_len (l : List Sub) (s : Sub) : (cliOf l s).length ≤ l.length := by
  have := cli_len s l []
  unfold cliOf; simpa using this
/-- The first one with the same filter. -/
theorem first_of {l : List Sub} {t : Sub} (ht : t ∈ l) : ∃ k s, l[k]? = some s ∧ fstOf l k s = true ∧ fsame s.filter t.filter = true := by
  obtain ⟨j, hj⟩ := List.mem_iff_getElem?.1 ht
  have key : ∀ n : Nat, (∃ (k : Nat) (s : Sub), k < n ∧ l[k]? = some s ∧ fsame s.filter t.filter = true) → ∃ (k : Nat) (s : Sub), l[k]? = some s ∧ fstOf l k s = true ∧ fsame s.filter t.filter = true := by
    intro n
    induction n with
    | zero => rintro ⟨k, s, h, _⟩; omega
    | succ n ih =>
      rintro ⟨k, s, h1, h2, h3⟩
      by_cases hf : fstOf l k s = true
      · exact ⟨k, s, h2, hf, h3⟩
      · refine ih ?_
        have : ¬ ∀ (q : Nat) (t' : Sub), q < k → l[q]? = some t' → fsame s.filter t'.filter = false := fun h => hf (fstOf_iff.2 h)
        have ⟨q, u, h4, h5, h6⟩ : ∃ (q : Nat) (u : Sub), q < k ∧ l[q]? = some u ∧ fsame s.filter u.filter = true := by
          refine Classical.byContradiction fun hne => this fun q u hq hu => ?_
          cases hc : fsame s.filter u.filter with
          | false => rfl
          | true => exact absurd ⟨q, u, hq, hu, hc⟩ hne
        exact ⟨q, u, by omega, h5, fsame_trans (fsame_symm h6) h3⟩
  exact key (j + 1) ⟨j, t, by omega, hj, fsame_rfl _⟩
end Go.Ab
namespace Go.Ab
open Go
set_option linter.unusedVariables false
set_option linter.unusedSimpArgs false
set_option linter.unnecessarySimpa false
theorem gofG_apart (l : List Sub) : ∀ (r : List Sub) (i : Nat) (out : List Grp), l.drop i = r → (∀ o ∈ out, ∃ (k : Nat) (s : Sub), k < i ∧ l[k]? = some s ∧ o.filter = s.filter) → out.Pairwise (fun a b => fsame b.filter a.filter = false) →
    (gofG l i r out).Pairwise (fun a b => fsame b.filter a.filter = false)
  | [], _, out, _, _, h => h
  | s :: r, i, out, hd, ho, hp => by
    have hi : l[i]? = some s := by
      have := congrArg (fun q => q[0]?) hd
      simpa using this
    have hd' : l.drop (i + 1) = r := by
      have := congrArg List.tail hd
      simpa using this
    unfold gofG
    refine gofG_apart l r (i + 1) _ hd' ?_ ?_
    · intro o h
      split at h
      · rcases List.mem_append.1 h with h | h
        · obtain ⟨k, t, h1, h2, h3⟩ := ho o h
          exact ⟨k, t, by omega, h2, h3⟩
        · simp at h; subst h
          exact ⟨i, s, by omega, hi, rfl⟩
      · obtain ⟨k, t, h1, h2, h3⟩ := ho o h
        exact ⟨k, t, by omega, h2, h3⟩
    · split
      · rename_i hf
        refine List.pairwise_append.2 ⟨hp, by simp, fun a ha b hb => ?_⟩
        simp at hb; subst hb
        obtain ⟨k, t, h1, h2, h3⟩ := ho a ha
        rw [h3]
        exact fstOf_iff.1 hf k t h1 h2
      · exact hp
theorem gof_apart (l : List Sub) {i k : Nat} {a b : Grp} (hi : (gof l)[i]? = some a) (hk : (gof l)[k]? = some b) (h : k < i) : fsame a.filter b.filter = false := by
  have := gofG_apart l l 0 [] rfl (by simp) List.Pairwise.nil
  obtain ⟨h1, rfl⟩ := List.getElem?_eq_some_iff.1 hi
  obtain ⟨h2, rfl⟩ := List.getElem?_eq_some_iff.1 hk
  exact List.pairwise_iff_getElem.1 this k i h2 h1 h
theorem mineG_mem (n : Int) : ∀ (g : List Grp) (i : Nat) (out : List Int) (c : Int), c ∈ mineG n i g out ↔ c ∈ out ∨ ∃ (k : Nat) (x : Grp), g[k]? = some x ∧ n ∈ x.clients ∧ c = ((i + k : Nat) : Int)
  | [], i, out, c => by simp [mineG]
  | y :: r, i, out, c => by
    unfold mineG
    rw [mineG_mem n r]
    constructor
    · rintro (h | ⟨k, x, h1, h2, h3⟩)
      · split at h
        · rename_i hf
          rcases List.mem_append.1 h with h | h
          · exact .inl h
          · simp at h; exact .inr ⟨0, y, rfl, hasI_iff.1 hf, by simp [h]⟩
        · exact .inl h
      · exact .inr ⟨k + 1, x, by simpa using h1, h2, by rw [h3]; congr 1; omega⟩
    · rintro (h | ⟨k, x, h1, h2, h3⟩)
      · left; split
        · exact List.mem_append_left _ h
        · exact h
      · cases k with
        | zero =>
          simp at h1; subst h1
          left; rw [if_pos (hasI_iff.2 h2)]; simp [h3]
        | succ k => exact .inr ⟨k, x, by simpa using h1, h2, by rw [h3]; congr 1; omega⟩
theorem gmine_mem {g : List Grp} {n c : Int} : c ∈ gmine g n ↔ ∃ (k : Nat) (x : Grp), g[k]? = some x ∧ n ∈ x.clients ∧ c = (k : Int) := by
  unfold gmine
  rw [mineG_mem]
  simp
theorem mineG_len (n : Int) : ∀ (g : List Grp) (i : Nat) (out : List Int), (mineG n i g out).length ≤ out.length + g.length
  | [], _, _ => by simp [mineG]
  | y :: r, i, out => by
    unfold mineG
    have := mineG_len n r (i + 1) (if hasI y.clients n then out ++ [(i : Int)] else out)
    split at this
    · rename_i h; rw [if_pos h]; simp at this ⊢; omega
    · rename_i h; rw [if_neg h]; simp at this ⊢; omega
theorem or_fold {α : Type} (P : α → Bool) : ∀ (l : List α) (b : Bool), l.foldl (fun b t => b || P t) b = (b || l.any P)
  | [], b => by simp
  | x :: r, b => by rw [List.foldl_cons, or_fold P r, List.any_cons, Bool.or_assoc]
def fStep (c : Int) (gf : List Pred) (b : Bool) (t : Sub) : Bool := b || (decide (t.client = c) && fsame t.filter gf)
def iStep (i : Nat) (b : Bool) (m : Int) : Bool := b || decide (m = (i : Int))
def gAt (g : List Grp) (m : Int) : Grp := (g[m.toNat]?).getD default
def mStep (g : List Grp) (f : List Pred) (b : Bool) (m : Int) : Bool := b || fsame (gAt g m).filter f
theorem f_true {l : List Sub} {i : Nat} {x : Grp} {c : Int} (hx : (gof l)[i]? = some x) (hc : c ∈ x.clients) : l.foldl (fStep c x.filter) false = true := by
  show l.foldl (fun b t => b || (decide (t.client = c) && fsame t.filter x.filter)) false = true
  rw [or_fold (fun t : Sub => decide (t.client = c) && fsame t.filter x.filter), Bool.false_or, List.any_eq_true]
  obtain ⟨k, s, h1, h2, rfl⟩ := gof_mem.1 (List.mem_of_getElem? hx)
  obtain ⟨t, ht, h3, h4⟩ := cliOf_mem.1 hc
  exact ⟨t, ht, by simp [h4, fsame_symm h3]⟩
theorem i_true {g : List Grp} {i : Nat} {x : Grp} {c : Int} (hx : g[i]? = some x) (hc : c ∈ x.clients) : (gmine g c).foldl (iStep i) false = true := by
  show (gmine g c).foldl (fun b m => b || decide (m = (i : Int))) false = true
  rw [or_fold (fun m : Int => decide (m = (i : Int))), Bool.false_or, List.any_eq_true]
  exact ⟨(i : Int), gmine_mem.2 ⟨i, x, hx, hc, rfl⟩, by simp⟩
theorem m_true {l : List Sub} {t : Sub} (ht : t ∈ l) : (gmine (gof l) t.client).foldl (mStep (gof l) t.filter) false = true := by
  show (gmine (gof l) t.client).foldl (fun b m => b || fsame (gAt (gof l) m).filter t.filter) false = true
  rw [or_fold (fun m : Int => fsame (gAt (gof l) m).filter t.filter), Bool.false_or, List.any_eq_true]
  obtain ⟨k, s, h3, h4, h5⟩ := first_of ht
  have hg : (⟨s.filter, cliOf l s⟩ : Grp) ∈ gof l := gof_mem.2 ⟨k, s, h3, h4, rfl⟩
  obtain ⟨q, hq⟩ := List.mem_iff_getElem?.1 hg
  refine ⟨(q : Int), gmine_mem.2 ⟨q, _, hq, cliOf_mem.2 ⟨t, ht, h5, rfl⟩, rfl⟩, ?_⟩
  unfold gAt
  rw [Int.toNat_natCast, hq]
  exact h5
theorem gof_nil (l : List Sub) : gof l = [] ↔ l = [] := by
  constructor
  · intro h
    cases l with
    | nil => rfl
    | cons s r =>
      have : (⟨s.filter, cliOf (s :: r) s⟩ : Grp) ∈ gof (s :: r) := gof_mem.2 ⟨0, s, rfl, rfl, rfl⟩
      rw [h] at this; simp at this
  · rintro rfl; rfl
end Go.Ab
namespace Go.Proofs.Ytclpbfkbpcjejaa
open Go Go.Ab
set_option linter.unusedVariables false
set_option linter.unusedSimpArgs false
set_option linter.unnecessarySimpa false
set_option maxRecDepth 20000
noncomputable section
variable (fr : Fr) (st : St) (k : Kt)
def fi56 : FI := { body := codeOf Try.f56, ntmps := 2, results := [.tmp 0], pers := [0], locals := [], pure := true, marks := [] }
theorem fi56_eq : gS.fn 56 = some fi56 := by kernel_rfl
theorem x56 : gS.ext 56 = none := rfl
theorem p56 : fi56.pure = true := rfl
theorem k56 (fr : Fr) (st : St) : callStep gS (EvF gS) 56 [] fr st = some (.ok (.val (.bool true)) fr st) := by
  have hc : EvF gS 56 [] ⟨[], 0⟩ = some (.ret (.bool true) none, ⟨[], 0⟩) := Evn.lim ⟨400, fun n hn => by
    obtain ⟨m, rfl⟩ : ∃ m, n = m + 400 := ⟨n - 400, by omega⟩
    kernel_rfl⟩
  exact call_pure' rfl fi56_eq rfl rfl ⟨_, hc⟩ rfl
def fi14 : FI := { body := codeOf Try.f14, ntmps := 187, results := [.tmp 2], pers := [0, 2, 3, 4, 5, 6, 7, 8, 9, 10, 11, 12, 13, 14, 15, 16, 17], locals := [], pure := false, marks := [] }
theorem fi14_eq : gS.fn 14 = some fi14 := by kernel_rfl
theorem st14 (a0 : V) : startFr fi14 [a0] = { ps := [(0, .val a0), (2, .any), (3, .any), (4, .any), (5, .any), (6, .any), (7, .any), (8, .any), (9, .any), (10, .any), (11, .any), (12, .any), (13, .any), (14, .any), (15, .any), (16, .any), (17, .any)], ts := [], lc := [] } := rfl
def b14 : Code := mini (codeOf Try.f14)
def c14_16 : Code := .cond (.tmp 29) .skip (.exit 0)
def c14_14 : Code := .seq (codeN b14 1071) c14_16
def c14_29 : Code := .cond (.tmp 34) .skip (.exit 2)
def c14_27 : Code := .seq (codeN b14 135471) c14_29
def r14_35 : Array Oper := regOps (codeN (codeOf Try.f14) 561455)
def c14_35 : Code := .region 10 r14_35 true
def q14_35 : List (Oper × Fl) := [(mv 37 5 71, ⟨true, false, true, false, false, false, true, true, false, false, []⟩),
 (mv 38 6 3, ⟨true, false, true, false, false, false, true, true, false, false, []⟩),
 (ixa 39 71 37 38 0, ⟨true, false, true, false, false, false, true, true, false, false, []⟩),
 (op1 40 (.fieldAddr 76 (.tmp 39) 0) 0, ⟨true, false, true, false, false, false, true, true, false, false, []⟩),
 (ld 41 49 40 49, ⟨true, false, true, false, false, false, true, true, false, false, []⟩),
 (mv 42 5 71, ⟨true, false, true, false, false, false, true, true, false, false, []⟩),
 (mv 43 7 3, ⟨true, false, true, false, true, false, true, true, false, false, []⟩),
 (ixa 44 71 42 43 0, ⟨true, false, true, false, true, false, true, true, false, false, []⟩),
 (op1 45 (.fieldAddr 76 (.tmp 44) 0) 0, ⟨true, false, true, false, true, false, true, true, false, false, []⟩),
 (ld 46 49 45 49, ⟨true, false, true, false, true, false, true, true, false, false, []⟩),
 (cal 47 41 [(.tmp 41), (.tmp 46)] [49, 49] 4, ⟨true, true, true, false, true, true, true, true, false, false, []⟩)]
def c14_37 : Code := .seq (codeN b14 2396463) .ret
def c14_36 : Code := .cond (.tmp 47) c14_37 .skip
def c14_34 : Code := .seq c14_35 c14_36
def c14_41 : Code := codeN b14 233775
def c14_32 : Code := .seq (.block 3 c14_34) c14_41
def c14_26 : Code := .seq c14_27 c14_32
def c14_25 : Code := .loop c14_26
def c14_24 : Code := .block 2 c14_25
def c14_22 : Code := .seq (codeN b14 8495) c14_24
def c14_49 : Code := .cond (.tmp 55) .skip (.exit 4)
def c14_47 : Code := .seq (codeN b14 137519) c14_49
def c14_64 : Code := .cond (.tmp 61) .skip (.exit 6)
def c14_62 : Code := .seq (codeN b14 34904367) c14_64
def r14_69 : Array Oper := regOps (codeN (codeOf Try.f14) 76847407)
def c14_69 : Code := .region 19 r14_69 true
def q14_69 : List (Oper × Fl) := [(mv 64 9 4, ⟨true, true, true, false, true, false, true, true, false, false, []⟩),
 (mv 65 64 4, ⟨true, true, true, false, true, false, true, true, false, false, []⟩),
 (mk (some 66) (.move (.tmp 4)) 67 (some (1, false)), ⟨true, false, true, false, false, false, true, true, false, false, []⟩),
 (mk (some 67) (.move (.tmp 10)) 3 (some (1, false)), ⟨true, false, true, false, false, false, true, true, false, false, []⟩),
 (mk (some 68) (.indexAddr 67 (.tmp 66) (.tmp 67)) 0 (some (1, false)), ⟨true, false, true, false, false, false, true, true, false, false, []⟩),
 (mk (some 69) (.fieldAddr 70 (.tmp 68) 0) 0 (some (1, false)), ⟨true, false, true, false, false, false, true, true, false, false, []⟩),
 (mk (some 70) (.load 3 (.tmp 69)) 3 (some (1, false)), ⟨true, false, true, false, false, false, true, true, false, false, []⟩),
 (mk (some 71) (.move (.tmp 5)) 71 (some (1, false)), ⟨true, false, true, false, false, false, true, true, false, false, []⟩),
 (mk (some 72) (.move (.tmp 6)) 3 (some (1, false)), ⟨true, false, true, false, false, false, true, true, false, false, []⟩),
 (mk (some 73) (.indexAddr 71 (.tmp 71) (.tmp 72)) 0 (some (1, false)), ⟨true, false, true, false, false, false, true, true, false, false, []⟩),
 (mk (some 74) (.fieldAddr 76 (.tmp 73) 1) 0 (some (1, false)), ⟨true, false, true, false, false, false, true, true, false, false, []⟩),
 (mk (some 75) (.load 28 (.tmp 74)) 28 (some (1, false)), ⟨true, false, true, false, false, false, true, true, false, false, []⟩),
 (mk (some 76) (.move (.tmp 8)) 3 (some (1, false)), ⟨true, false, true, false, false, false, true, true, false, false, []⟩),
 (mk (some 77) (.indexAddr 28 (.tmp 75) (.tmp 76)) 0 (some (1, false)), ⟨true, false, true, false, false, false, true, true, false, false, []⟩),
 (mk (some 78) (.load 3 (.tmp 77)) 3 (some (1, false)), ⟨true, false, true, false, true, false, true, true, false, false, []⟩),
 (mk (some 79) (.binOp .eql 3 (.tmp 70) (.tmp 78) 3) 4 (some (1, false)), ⟨true, false, true, false, true, false, true, true, false, false, []⟩),
 (mk (some 80) (.move (.tmp 79)) 4 (some (1, false)), ⟨true, false, true, false, true, false, true, true, false, false, []⟩),
 (mk (some 81) (.move (.tmp 4)) 67 (some (16, true)), ⟨true, false, true, false, false, false, true, true, false, false, []⟩),
 (mk (some 82) (.move (.tmp 10)) 3 (some (16, true)), ⟨true, false, true, false, false, false, true, true, false, false, []⟩),
 (mk (some 83) (.indexAddr 67 (.tmp 81) (.tmp 82)) 0 (some (16, true)), ⟨true, false, true, false, false, false, true, true, false, false, []⟩),
 (mk (some 84) (.fieldAddr 70 (.tmp 83) 3) 0 (some (16, true)), ⟨true, false, true, false, false, false, true, true, false, false, []⟩),
 (mk (some 85) (.load 49 (.tmp 84)) 49 (some (16, true)), ⟨true, false, true, false, false, false, true, true, false, false, []⟩),
 (mk (some 86) (.move (.tmp 5)) 71 (some (16, true)), ⟨true, false, true, false, false, false, true, true, false, false, []⟩),
 (mk (some 87) (.move (.tmp 6)) 3 (some (16, true)), ⟨true, false, true, false, false, false, true, true, false, false, []⟩),
 (mk (some 88) (.indexAddr 71 (.tmp 86) (.tmp 87)) 0 (some (16, true)), ⟨true, false, true, false, false, false, true, true, false, false, []⟩),
 (mk (some 89) (.fieldAddr 76 (.tmp 88) 0) 0 (some (16, true)), ⟨true, false, true, false, true, false, true, true, false, false, []⟩),
 (mk (some 90) (.load 49 (.tmp 89)) 49 (some (16, true)), ⟨true, false, true, false, true, false, true, true, false, false, []⟩),
 (mk (some 91) (.call { callee := (.value (.func 41)), args := #[(.tmp 85), (.tmp 90)], argTypes := #[49, 49] }) 4 (some (16, true)), ⟨true, true, true, false, true, true, true, true, false, false, []⟩),
 (mk (some 92) (.pick (.tmp 80) (.tmp 91) (.const (.bool false))) 4 (some (1, false)), ⟨true, false, true, false, true, false, true, true, false, false, []⟩),
 (op1 93 (.pick (.tmp 65) (.const (.bool true)) (.tmp 92)) 4, ⟨true, false, true, false, true, false, true, true, false, false, []⟩),
 (asn 9 93 4, ⟨true, true, true, false, true, false, true, true, false, false, []⟩)]
def c14_70 : Code := codeN b14 60070191
def c14_67 : Code := .seq (.block 7 c14_69) c14_70
def c14_61 : Code := .seq c14_62 c14_67
def c14_60 : Code := .loop c14_61
def c14_59 : Code := .block 6 c14_60
def c14_57 : Code := .seq (codeN b14 2398511) c14_59
def c14_83 : Code := .cond (.tmp 107) .skip (.exit 8)
def c14_81 : Code := .seq (codeN b14 280795439) c14_83
def c14_88 : Code := codeN b14 616339759
def c14_89 : Code := codeN b14 482122031
def c14_86 : Code := .seq (.block 9 c14_88) c14_89
def c14_80 : Code := .seq c14_81 c14_86
def c14_79 : Code := .loop c14_80
def c14_78 : Code := .block 8 c14_79
def c14_76 : Code := .seq (codeN b14 20748591) c14_78
def c14_93 : Code := .seq (codeN b14 83663151) .ret
def c14_92 : Code := .cond (.tmp 124) c14_93 .skip
def c14_90 : Code := .seq (codeN b14 24942895) c14_92
theorem e14_90 : evK gS fi14 c14_90 fr st k = opsR gS fi14 [mv 119 9 4,
 op1 120 (.unOp .not 4 (.tmp 119)) 4,
 mv 121 120 4,
 mk (some 122) (.move (.tmp 12)) 4 (some (2, false)),
 mk (some 123) (.unOp .not 4 (.tmp 122)) 4 (some (2, false)),
 op1 124 (.pick (.tmp 121) (.const (.bool true)) (.tmp 123)) 4] fr st (.seq c14_92 k) := evK_rs 26 rfl (by kernel_rfl)
def c14_75 : Code := .seq c14_76 c14_90
def c14_73 : Code := .seq (codeN b14 6068527) c14_75
def c14_71 : Code := .seq (codeN b14 2922799) c14_73
theorem e14_71 : evK gS fi14 c14_71 fr st k = opsR gS fi14 [mv 94 5 71,
 mv 95 5 71,
 mv 96 6 3,
 ixa 97 71 95 96 0,
 op1 98 (.fieldAddr 76 (.tmp 97) 1) 0,
 ld 99 28 98 28,
 mv 100 8 3,
 ixa 101 28 99 100 0,
 ld 102 3 101 3,
 cal 103 64 [(.tmp 94), (.tmp 102)] [71, 3] 28,
 asn 11 103 28] fr st (.seq c14_73 k) := evK_rs 20 rfl (by kernel_rfl)
def c14_56 : Code := .seq c14_57 c14_71
def c14_54 : Code := .seq (codeN b14 563503) c14_56
def c14_97 : Code := codeN b14 235823
def c14_52 : Code := .seq (.block 5 c14_54) c14_97
def c14_46 : Code := .seq c14_47 c14_52
def c14_45 : Code := .loop c14_46
def c14_44 : Code := .block 4 c14_45
def c14_42 : Code := .seq (codeN b14 10543) c14_44
theorem e14_42 : evK gS fi14 c14_42 fr st k = opsR gS fi14 [op1 8 (.assign (.const (.int .i64 0))) 3] fr st (.seq c14_44 k) := evK_rs 12 rfl (by kernel_rfl)
def c14_21 : Code := .seq c14_22 c14_42
def c14_98 : Code := codeN b14 1839
theorem e14_98 : evK gS fi14 c14_98 fr st k = opsR gS fi14 [mv 30 6 3,
 op1 31 (.binOp .add 3 (.tmp 30) (.const (.int .i64 1)) 3) 3,
 asn 6 31 3] fr st k := evK_r 6 (by kernel_rfl)
def c14_19 : Code := .seq (.block 1 c14_21) c14_98
def c14_13 : Code := .seq c14_14 c14_19
def c14_12 : Code := .loop c14_13
def c14_11 : Code := .block 0 c14_12
def c14_9 : Code := .seq (codeN b14 79) c14_11
def c14_107 : Code := .cond (.tmp 128) .skip (.exit 10)
def c14_105 : Code := .seq (codeN b14 2143) c14_107
def c14_124 : Code := .cond (.tmp 141) .skip (.exit 12)
def c14_122 : Code := .seq (codeN b14 1094239) c14_124
def c14_133 : Code := .seq (codeN b14 38056543) .ret
def c14_132 : Code := .cond (.tmp 157) c14_133 .skip
def c14_130 : Code := .seq (codeN b14 8696415) c14_132
def r14_137 : Array Oper := regOps (codeN (codeOf Try.f14) 6599263)
def c14_137 : Code := .region 38 r14_137 true
def q14_137 : List (Oper × Fl) := [(mv 158 16 4, ⟨true, true, true, false, true, false, true, true, false, false, []⟩),
 (mv 159 158 4, ⟨true, true, true, false, true, false, true, true, false, false, []⟩),
 (mk (some 160) (.move (.tmp 5)) 71 (some (1, false)), ⟨true, false, true, false, false, false, true, true, false, false, []⟩),
 (mk (some 161) (.move (.tmp 15)) 28 (some (1, false)), ⟨true, false, true, false, false, false, true, true, false, false, []⟩),
 (mk (some 162) (.move (.tmp 17)) 3 (some (1, false)), ⟨true, false, true, false, false, false, true, true, false, false, []⟩),
 (mk (some 163) (.indexAddr 28 (.tmp 161) (.tmp 162)) 0 (some (1, false)), ⟨true, false, true, false, false, false, true, true, false, false, []⟩),
 (mk (some 164) (.load 3 (.tmp 163)) 3 (some (1, false)), ⟨true, false, true, false, false, false, true, true, false, false, []⟩),
 (mk (some 165) (.indexAddr 71 (.tmp 160) (.tmp 164)) 0 (some (1, false)), ⟨true, false, true, false, false, false, true, true, false, false, []⟩),
 (mk (some 166) (.fieldAddr 76 (.tmp 165) 0) 0 (some (1, false)), ⟨true, false, true, false, false, false, true, true, false, false, []⟩),
 (mk (some 167) (.load 49 (.tmp 166)) 49 (some (1, false)), ⟨true, false, true, false, false, false, true, true, false, false, []⟩),
 (mk (some 168) (.move (.tmp 4)) 67 (some (1, false)), ⟨true, false, true, false, false, false, true, true, false, false, []⟩),
 (mk (some 169) (.move (.tmp 14)) 3 (some (1, false)), ⟨true, false, true, false, false, false, true, true, false, false, []⟩),
 (mk (some 170) (.indexAddr 67 (.tmp 168) (.tmp 169)) 0 (some (1, false)), ⟨true, false, true, false, true, false, true, true, false, false, []⟩),
 (mk (some 171) (.fieldAddr 70 (.tmp 170) 3) 0 (some (1, false)), ⟨true, false, true, false, true, false, true, true, false, false, []⟩),
 (mk (some 172) (.load 49 (.tmp 171)) 49 (some (1, false)), ⟨true, false, true, false, true, false, true, true, false, false, []⟩),
 (mk (some 173) (.call { callee := (.value (.func 41)), args := #[(.tmp 167), (.tmp 172)], argTypes := #[49, 49] }) 4 (some (1, false)), ⟨true, true, true, false, true, true, true, true, false, false, []⟩),
 (op1 174 (.pick (.tmp 159) (.const (.bool true)) (.tmp 173)) 4, ⟨true, false, true, false, true, false, true, true, false, false, []⟩),
 (asn 16 174 4, ⟨true, true, true, false, true, false, true, true, false, false, []⟩)]
def c14_129 : Code := .seq c14_130 c14_137
def c14_138 : Code := codeN b14 1880671
def c14_127 : Code := .seq (.block 13 c14_129) c14_138
def c14_121 : Code := .seq c14_122 c14_127
def c14_120 : Code := .loop c14_121
def c14_119 : Code := .block 12 c14_120
def c14_117 : Code := .seq (codeN b14 78431) c14_119
def c14_142 : Code := .seq (codeN b14 324191) .ret
def c14_141 : Code := .cond (.tmp 176) c14_142 .skip
def c14_139 : Code := .seq (codeN b14 94815) c14_141
theorem e14_139 : evK gS fi14 c14_139 fr st k = opsR gS fi14 [mv 175 16 4,
 op1 176 (.unOp .not 4 (.tmp 175)) 4] fr st (.seq c14_141 k) := evK_rs 39 rfl (by kernel_rfl)
def c14_116 : Code := .seq c14_117 c14_139
def c14_114 : Code := .seq (codeN b14 21087) c14_116
def c14_112 : Code := .seq (codeN b14 8799) c14_114
def c14_146 : Code := codeN b14 3679
def c14_110 : Code := .seq (.block 11 c14_112) c14_146
def c14_104 : Code := .seq c14_105 c14_110
def c14_103 : Code := .loop c14_104
def c14_102 : Code := .block 10 c14_103
def c14_100 : Code := .seq (codeN b14 159) c14_102
def c14_147 : Code := .seq (codeN b14 191) .ret
theorem e14_147 : evK gS fi14 c14_147 fr st k = opsR gS fi14 [cal 177 56 [] [] 4,
 mv 178 177 4,
 mk (some 179) (.move (.tmp 4)) 67 (some (1, true)),
 mk (some 180) (.call { callee := (.builtin .len), args := #[(.tmp 179)], argTypes := #[67] }) 3 (some (1, true)),
 mk (some 181) (.binOp .eql 3 (.tmp 180) (.const (.int .i64 0)) 3) 4 (some (1, true)),
 mk (some 182) (.move (.tmp 5)) 71 (some (1, true)),
 mk (some 183) (.call { callee := (.builtin .len), args := #[(.tmp 182)], argTypes := #[71] }) 3 (some (1, true)),
 mk (some 184) (.binOp .eql 3 (.tmp 183) (.const (.int .i64 0)) 3) 4 (some (1, true)),
 mk (some 185) (.binOp .eql 4 (.tmp 181) (.tmp 184) 4) 4 (some (1, true)),
 op1 186 (.pick (.tmp 178) (.tmp 185) (.const (.bool false))) 4,
 asn 2 186 4] fr st (.seq .ret k) := evK_rs 41 rfl (by kernel_rfl)
def c14_99 : Code := .seq c14_100 c14_147
theorem e14_99 : evK gS fi14 c14_99 fr st k = evK gS fi14 c14_100 fr st (.seq c14_147 k) := rfl
def c14_8 : Code := .seq c14_9 c14_99
def c14_6 : Code := .seq (codeN b14 23) c14_8
def c14_4 : Code := .seq (codeN b14 11) c14_6
def c14_2 : Code := .seq (codeN b14 5) c14_4
def c14_0 : Code := .seq (codeN b14 2) c14_2
theorem E14 : evK gS fi14 c14_16 fr st k = condK gS fi14 (fr.op (.tmp 29)).bool? .skip (.exit 0) fr st k ∧
 (evK gS fi14 c14_14 fr st k = opsR gS fi14 [mv 26 6 3,
 mv 27 5 71,
 len1 28 27 71 3,
 bop 29 .lss 3 26 28 3 4] fr st (.seq c14_16 k)) ∧
 evK gS fi14 c14_29 fr st k = condK gS fi14 (fr.op (.tmp 34)).bool? .skip (.exit 2) fr st k ∧
 (evK gS fi14 c14_27 fr st k = opsR gS fi14 [mv 32 7 3,
 mv 33 6 3,
 bop 34 .lss 3 32 33 3 4] fr st (.seq c14_29 k)) ∧
 evK gS fi14 c14_35 fr st k = drwR gS fi14 r14_35 q14_35 fr st k ∧
 evK gS fi14 c14_37 fr st k = opsR gS fi14 [op1 2 (.assign (.const (.bool false))) 4] fr st (.seq .ret k) ∧
 evK gS fi14 c14_36 fr st k = condK gS fi14 (fr.op (.tmp 47)).bool? c14_37 .skip fr st k ∧
 evK gS fi14 c14_34 fr st k = evK gS fi14 c14_35 fr st (.seq c14_36 k) ∧
 (evK gS fi14 c14_41 fr st k = opsR gS fi14 [mv 35 7 3,
 op1 36 (.binOp .add 3 (.tmp 35) (.const (.int .i64 1)) 3) 3,
 asn 7 36 3] fr st k) ∧
 evK gS fi14 c14_32 fr st k = evK gS fi14 c14_34 fr st (.blk 3 (.seq c14_41 k)) ∧
 evK gS fi14 c14_26 fr st k = evK gS fi14 c14_27 fr st (.seq c14_32 k) ∧
 evK gS fi14 c14_24 fr st k = evK gS fi14 c14_25 fr st (.blk 2 k) ∧
 evK gS fi14 c14_22 fr st k = opsR gS fi14 [op1 7 (.assign (.const (.int .i64 0))) 3] fr st (.seq c14_24 k) ∧
 evK gS fi14 c14_49 fr st k = condK gS fi14 (fr.op (.tmp 55)).bool? .skip (.exit 4) fr st k ∧
 (evK gS fi14 c14_47 fr st k = opsR gS fi14 [mv 48 8 3,
 mv 49 5 71,
 mv 50 6 3,
 ixa 51 71 49 50 0,
 op1 52 (.fieldAddr 76 (.tmp 51) 1) 0,
 ld 53 28 52 28,
 len1 54 53 28 3,
 bop 55 .lss 3 48 54 3 4] fr st (.seq c14_49 k)) ∧
 evK gS fi14 c14_64 fr st k = condK gS fi14 (fr.op (.tmp 61)).bool? .skip (.exit 6) fr st k ∧
 (evK gS fi14 c14_62 fr st k = opsR gS fi14 [mv 58 10 3,
 mv 59 4 67,
 len1 60 59 67 3,
 bop 61 .lss 3 58 60 3 4] fr st (.seq c14_64 k)) ∧
 evK gS fi14 c14_69 fr st k = drwR gS fi14 r14_69 q14_69 fr st k ∧
 (evK gS fi14 c14_70 fr st k = opsR gS fi14 [mv 62 10 3,
 op1 63 (.binOp .add 3 (.tmp 62) (.const (.int .i64 1)) 3) 3,
 asn 10 63 3] fr st k) ∧
 evK gS fi14 c14_67 fr st k = evK gS fi14 c14_69 fr st (.blk 7 (.seq c14_70 k)) ∧
 evK gS fi14 c14_61 fr st k = evK gS fi14 c14_62 fr st (.seq c14_67 k) ∧
 evK gS fi14 c14_59 fr st k = evK gS fi14 c14_60 fr st (.blk 6 k) ∧
 evK gS fi14 c14_57 fr st k = opsR gS fi14 [op1 10 (.assign (.const (.int .i64 0))) 3] fr st (.seq c14_59 k) ∧
 evK gS fi14 c14_83 fr st k = condK gS fi14 (fr.op (.tmp 107)).bool? .skip (.exit 8) fr st k ∧
 (evK gS fi14 c14_81 fr st k = opsR gS fi14 [mv 104 13 3,
 mv 105 11 28,
 len1 106 105 28 3,
 bop 107 .lss 3 104 106 3 4] fr st (.seq c14_83 k)) ∧
 (evK gS fi14 c14_88 fr st k = opsR gS fi14 [mv 110 12 4,
 mv 111 110 4,
 mk (some 112) (.move (.tmp 11)) 28 (some (1, false)),
 mk (some 113) (.move (.tmp 13)) 3 (some (1, false)),
 mk (some 114) (.indexAddr 28 (.tmp 112) (.tmp 113)) 0 (some (1, false)),
 mk (some 115) (.load 3 (.tmp 114)) 3 (some (1, false)),
 mk (some 116) (.move (.tmp 6)) 3 (some (1, false)),
 mk (some 117) (.binOp .eql 3 (.tmp 115) (.tmp 116) 3) 4 (some (1, false)),
 op1 118 (.pick (.tmp 111) (.const (.bool true)) (.tmp 117)) 4,
 asn 12 118 4] fr st k) ∧
 (evK gS fi14 c14_89 fr st k = opsR gS fi14 [mv 108 13 3,
 op1 109 (.binOp .add 3 (.tmp 108) (.const (.int .i64 1)) 3) 3,
 asn 13 109 3] fr st k) ∧
 evK gS fi14 c14_86 fr st k = evK gS fi14 c14_88 fr st (.blk 9 (.seq c14_89 k)) ∧
 evK gS fi14 c14_80 fr st k = evK gS fi14 c14_81 fr st (.seq c14_86 k) ∧
 evK gS fi14 c14_78 fr st k = evK gS fi14 c14_79 fr st (.blk 8 k) ∧
 evK gS fi14 c14_76 fr st k = opsR gS fi14 [op1 13 (.assign (.const (.int .i64 0))) 3] fr st (.seq c14_78 k) ∧
 evK gS fi14 c14_93 fr st k = opsR gS fi14 [op1 2 (.assign (.const (.bool false))) 4] fr st (.seq .ret k) ∧
 evK gS fi14 c14_92 fr st k = condK gS fi14 (fr.op (.tmp 124)).bool? c14_93 .skip fr st k ∧
 evK gS fi14 c14_75 fr st k = evK gS fi14 c14_76 fr st (.seq c14_90 k) ∧
 evK gS fi14 c14_73 fr st k = opsR gS fi14 [op1 12 (.assign (.const (.bool false))) 4] fr st (.seq c14_75 k) ∧
 evK gS fi14 c14_56 fr st k = evK gS fi14 c14_57 fr st (.seq c14_71 k) ∧
 evK gS fi14 c14_54 fr st k = opsR gS fi14 [op1 9 (.assign (.const (.bool false))) 4] fr st (.seq c14_56 k) ∧
 (evK gS fi14 c14_97 fr st k = opsR gS fi14 [mv 56 8 3,
 op1 57 (.binOp .add 3 (.tmp 56) (.const (.int .i64 1)) 3) 3,
 asn 8 57 3] fr st k) ∧
 evK gS fi14 c14_52 fr st k = evK gS fi14 c14_54 fr st (.blk 5 (.seq c14_97 k)) ∧
 evK gS fi14 c14_46 fr st k = evK gS fi14 c14_47 fr st (.seq c14_52 k) ∧
 evK gS fi14 c14_44 fr st k = evK gS fi14 c14_45 fr st (.blk 4 k) ∧
 evK gS fi14 c14_21 fr st k = evK gS fi14 c14_22 fr st (.seq c14_42 k) ∧
 evK gS fi14 c14_19 fr st k = evK gS fi14 c14_21 fr st (.blk 1 (.seq c14_98 k)) ∧
 evK gS fi14 c14_13 fr st k = evK gS fi14 c14_14 fr st (.seq c14_19 k) ∧
 evK gS fi14 c14_11 fr st k = evK gS fi14 c14_12 fr st (.blk 0 k) ∧
 evK gS fi14 c14_9 fr st k = opsR gS fi14 [op1 6 (.assign (.const (.int .i64 0))) 3] fr st (.seq c14_11 k) ∧
 evK gS fi14 c14_107 fr st k = condK gS fi14 (fr.op (.tmp 128)).bool? .skip (.exit 10) fr st k ∧
 (evK gS fi14 c14_105 fr st k = opsR gS fi14 [mv 125 14 3,
 mv 126 4 67,
 len1 127 126 67 3,
 bop 128 .lss 3 125 127 3 4] fr st (.seq c14_107 k)) ∧
 evK gS fi14 c14_124 fr st k = condK gS fi14 (fr.op (.tmp 141)).bool? .skip (.exit 12) fr st k ∧
 (evK gS fi14 c14_122 fr st k = opsR gS fi14 [mv 138 17 3,
 mv 139 15 28,
 len1 140 139 28 3,
 bop 141 .lss 3 138 140 3 4] fr st (.seq c14_124 k)) ∧
 evK gS fi14 c14_133 fr st k = opsR gS fi14 [op1 2 (.assign (.const (.bool false))) 4] fr st (.seq .ret k) ∧
 evK gS fi14 c14_132 fr st k = condK gS fi14 (fr.op (.tmp 157)).bool? c14_133 .skip fr st k ∧
 (evK gS fi14 c14_130 fr st k = opsR gS fi14 [mv 144 15 28,
 mv 145 17 3,
 ixa 146 28 144 145 0,
 ld 147 3 146 3,
 op1 148 (.binOp .lss 3 (.tmp 147) (.const (.int .i64 0)) 3) 4,
 mv 149 148 4,
 mk (some 150) (.move (.tmp 15)) 28 (some (5, false)),
 mk (some 151) (.move (.tmp 17)) 3 (some (5, false)),
 mk (some 152) (.indexAddr 28 (.tmp 150) (.tmp 151)) 0 (some (5, false)),
 mk (some 153) (.load 3 (.tmp 152)) 3 (some (5, false)),
 mk (some 154) (.move (.tmp 5)) 71 (some (5, false)),
 mk (some 155) (.call { callee := (.builtin .len), args := #[(.tmp 154)], argTypes := #[71] }) 3 (some (5, false)),
 mk (some 156) (.binOp .geq 3 (.tmp 153) (.tmp 155) 3) 4 (some (5, false)),
 op1 157 (.pick (.tmp 149) (.const (.bool true)) (.tmp 156)) 4] fr st (.seq c14_132 k)) ∧
 evK gS fi14 c14_137 fr st k = drwR gS fi14 r14_137 q14_137 fr st k ∧
 evK gS fi14 c14_129 fr st k = evK gS fi14 c14_130 fr st (.seq c14_137 k) ∧
 (evK gS fi14 c14_138 fr st k = opsR gS fi14 [mv 142 17 3,
 op1 143 (.binOp .add 3 (.tmp 142) (.const (.int .i64 1)) 3) 3,
 asn 17 143 3] fr st k) ∧
 evK gS fi14 c14_127 fr st k = evK gS fi14 c14_129 fr st (.blk 13 (.seq c14_138 k)) ∧
 evK gS fi14 c14_121 fr st k = evK gS fi14 c14_122 fr st (.seq c14_127 k) ∧
 evK gS fi14 c14_119 fr st k = evK gS fi14 c14_120 fr st (.blk 12 k) ∧
 evK gS fi14 c14_117 fr st k = opsR gS fi14 [op1 17 (.assign (.const (.int .i64 0))) 3] fr st (.seq c14_119 k) ∧
 evK gS fi14 c14_142 fr st k = opsR gS fi14 [op1 2 (.assign (.const (.bool false))) 4] fr st (.seq .ret k) ∧
 evK gS fi14 c14_141 fr st k = condK gS fi14 (fr.op (.tmp 176)).bool? c14_142 .skip fr st k ∧
 evK gS fi14 c14_116 fr st k = evK gS fi14 c14_117 fr st (.seq c14_139 k) ∧
 evK gS fi14 c14_114 fr st k = opsR gS fi14 [op1 16 (.assign (.const (.bool false))) 4] fr st (.seq c14_116 k) ∧
 (evK gS fi14 c14_112 fr st k = opsR gS fi14 [mv 131 5 71,
 mv 132 4 67,
 mv 133 14 3,
 ixa 134 67 132 133 0,
 op1 135 (.fieldAddr 70 (.tmp 134) 0) 0,
 ld 136 3 135 3,
 cal 137 64 [(.tmp 131), (.tmp 136)] [71, 3] 28,
 asn 15 137 28] fr st (.seq c14_114 k)) ∧
 (evK gS fi14 c14_146 fr st k = opsR gS fi14 [mv 129 14 3,
 op1 130 (.binOp .add 3 (.tmp 129) (.const (.int .i64 1)) 3) 3,
 asn 14 130 3] fr st k) ∧
 evK gS fi14 c14_110 fr st k = evK gS fi14 c14_112 fr st (.blk 11 (.seq c14_146 k)) ∧
 evK gS fi14 c14_104 fr st k = evK gS fi14 c14_105 fr st (.seq c14_110 k) ∧
 evK gS fi14 c14_102 fr st k = evK gS fi14 c14_103 fr st (.blk 10 k) ∧
 evK gS fi14 c14_100 fr st k = opsR gS fi14 [op1 14 (.assign (.const (.int .i64 0))) 3] fr st (.seq c14_102 k) ∧
 evK gS fi14 c14_8 fr st k = evK gS fi14 c14_9 fr st (.seq c14_99 k) ∧
 (evK gS fi14 c14_6 fr st k = opsR gS fi14 [mv 24 4 67,
 cal 25 54 [(.tmp 24)] [67] 71,
 asn 5 25 71] fr st (.seq c14_8 k)) ∧
 (evK gS fi14 c14_4 fr st k = opsR gS fi14 [mv 21 3 29,
 op1 22 (.buildSlice 28 3 #[(0, (.const (.int .i64 0))), (1, (.const (.int .i64 0))), (2, (.const (.int .i64 1)))]) 28,
 cal 23 53 [(.tmp 21), (.tmp 22)] [29, 28] 67,
 asn 4 23 67] fr st (.seq c14_6 k)) ∧
 (evK gS fi14 c14_2 fr st k = opsR gS fi14 [mv 18 0 28,
 op1 19 (.build 31 #[(0, (.tmp 18))]) 31,
 op1 20 (.box 31 (.tmp 19)) 29,
 asn 3 20 29] fr st (.seq c14_4 k)) ∧
 evK gS fi14 c14_0 fr st k = opsR gS fi14 [op1 2 (.assign (.const (.bool false))) 4] fr st (.seq c14_2 k) := ⟨rfl, evK_rs 5 rfl (by kernel_rfl), rfl, evK_rs 8 rfl (by kernel_rfl), evK_dr 10 rfl (by kernel_rfl) (by kernel_rfl), evK_rs 11 rfl (by kernel_rfl), rfl, rfl, evK_r 9 (by kernel_rfl), rfl, rfl, rfl, evK_rs 7 rfl (by kernel_rfl), rfl, evK_rs 13 rfl (by kernel_rfl), rfl, evK_rs 17 rfl (by kernel_rfl), evK_dr 19 rfl (by kernel_rfl) (by kernel_rfl), evK_r 18 (by kernel_rfl), rfl, rfl, rfl, evK_rs 16 rfl (by kernel_rfl), rfl, evK_rs 23 rfl (by kernel_rfl), evK_r 25 (by kernel_rfl), evK_r 24 (by kernel_rfl), rfl, rfl, rfl, evK_rs 22 rfl (by kernel_rfl), evK_rs 27 rfl (by kernel_rfl), rfl, rfl, evK_rs 21 rfl (by kernel_rfl), rfl, evK_rs 15 rfl (by kernel_rfl), evK_r 14 (by kernel_rfl), rfl, rfl, rfl, rfl, rfl, rfl, rfl, evK_rs 4 rfl (by kernel_rfl), rfl, evK_rs 29 rfl (by kernel_rfl), rfl, evK_rs 34 rfl (by kernel_rfl), evK_rs 37 rfl (by kernel_rfl), rfl, evK_rs 36 rfl (by kernel_rfl), evK_dr 38 rfl (by kernel_rfl) (by kernel_rfl), rfl, evK_r 35 (by kernel_rfl), rfl, rfl, rfl, evK_rs 33 rfl (by kernel_rfl), evK_rs 40 rfl (by kernel_rfl), rfl, rfl, evK_rs 32 rfl (by kernel_rfl), evK_rs 31 rfl (by kernel_rfl), evK_r 30 (by kernel_rfl), rfl, rfl, rfl, evK_rs 28 rfl (by kernel_rfl), rfl, evK_rs 3 rfl (by kernel_rfl), evK_rs 2 rfl (by kernel_rfl), evK_rs 1 rfl (by kernel_rfl), evK_rs 0 rfl (by kernel_rfl)⟩
theorem m14 : mini fi14.body = c14_0 := by kernel_rfl
theorem n14_25 (fr : Fr) (st : St) (k : Kt) : nextK gS fi14 (.loop c14_26 k) .normal fr st = evK gS fi14 c14_25 fr st k := rfl
theorem n14_60 (fr : Fr) (st : St) (k : Kt) : nextK gS fi14 (.loop c14_61 k) .normal fr st = evK gS fi14 c14_60 fr st k := rfl
theorem n14_79 (fr : Fr) (st : St) (k : Kt) : nextK gS fi14 (.loop c14_80 k) .normal fr st = evK gS fi14 c14_79 fr st k := rfl
theorem n14_45 (fr : Fr) (st : St) (k : Kt) : nextK gS fi14 (.loop c14_46 k) .normal fr st = evK gS fi14 c14_45 fr st k := rfl
theorem n14_12 (fr : Fr) (st : St) (k : Kt) : nextK gS fi14 (.loop c14_13 k) .normal fr st = evK gS fi14 c14_12 fr st k := rfl
theorem n14_120 (fr : Fr) (st : St) (k : Kt) : nextK gS fi14 (.loop c14_121 k) .normal fr st = evK gS fi14 c14_120 fr st k := rfl
theorem n14_103 (fr : Fr) (st : St) (k : Kt) : nextK gS fi14 (.loop c14_104 k) .normal fr st = evK gS fi14 c14_103 fr st k := rfl
set_option maxHeartbeats 8000000 in
theorem LA (xs : List Sub) (hx1 : ∀ s ∈ xs, POk s.filter) (hx2 : xs.length ≤ 18) (g : List Grp) (hg1 : ∀ x ∈ g, POk x.filter ∧ x.clients.length < 1000) (hg2 : g.length ≤ 18) (l1 : List Int) (id : Nat) (S : St) (R : Out × St) (hap : ∀ (i k : Nat) (a b : Grp), g[i]? = some a → g[k]? = some b → k < i → fsame a.filter b.filter = false) (i : Nat) (hi : i < g.length) 
    (H : ∀ (e8 e9 e10 e11 e12 e13 e14 e15 e16 e17 : E) (T : List (Nat × E)) (X : List (Nat × List V)), e8.Tame → e9.Tame → e10.Tame → e11.Tame → e12.Tame → e13.Tame → e14.Tame → e15.Tame → e16.Tame → e17.Tame → evK gS fi14 c14_42 { ps := [(0, .val (.slice (intVs l1))), (2, .val (.bool false)), (3, .val (.ptr id 0)), (4, .val (.slice (encSubs xs))), (5, .val (.slice (encGrps g))), (6, .val (.int .i64 (i : Nat))), (7, .val (.int .i64 i)), (8, e8), (9, e9), (10, e10), (11, e11), (12, e12), (13, e13), (14, e14), (15, e15), (16, e16), (17, e17)], ts := T, lc := X } S (.blk 1 (.seq c14_98 (.loop c14_13 (.blk 0 (.seq c14_99 .nil))))) = some R) :
    ∀ (m q : Nat) (e8 e9 e10 e11 e12 e13 e14 e15 e16 e17 : E) (T : List (Nat × E)) (X : List (Nat × List V)) (h8 : e8.Tame) (h9 : e9.Tame) (h10 : e10.Tame) (h11 : e11.Tame) (h12 : e12.Tame) (h13 : e13.Tame) (h14 : e14.Tame) (h15 : e15.Tame) (h16 : e16.Tame) (h17 : e17.Tame), q ≤ i → i - q = m → 
    evK gS fi14 c14_25 { ps := [(0, .val (.slice (intVs l1))), (2, .val (.bool false)), (3, .val (.ptr id 0)), (4, .val (.slice (encSubs xs))), (5, .val (.slice (encGrps g))), (6, .val (.int .i64 (i : Nat))), (7, .val (.int .i64 (q : Nat))), (8, e8), (9, e9), (10, e10), (11, e11), (12, e12), (13, e13), (14, e14), (15, e15), (16, e16), (17, e17)], ts := T, lc := X } S (.blk 2 (.seq c14_42 (.blk 1 (.seq c14_98 (.loop c14_13 (.blk 0 (.seq c14_99 .nil))))))) = some R := by
  intro m
  have hm : fi14.marks = [] := rfl
  have hl : fi14.locals = [] := rfl
  have hr : fi14.results = [.tmp 2] := rfl
  obtain ⟨y, hy⟩ : ∃ y, g[i]? = some y := ⟨g[i]'(by omega), List.getElem?_eq_getElem (by omega)⟩
  have hit : (i : Int) < (g.length : Int) := by omega
  obtain ⟨hil, hye⟩ := List.getElem?_eq_some_iff.1 hy
  have hyo := (hg1 y (List.mem_of_getElem? hy)).1
  induction m with
  | zero =>
    intro q e8 e9 e10 e11 e12 e13 e14 e15 e16 e17 T X h8 h9 h10 h11 h12 h13 h14 h15 h16 h17 hq hm2 
    obtain rfl : q = i := by omega
    refine evK_loop c14_26 _ _ _ _ rfl ?_
    simp [-Int.natCast_add, h8, h9, h10, h11, h12, h13, h14, h15, h16, h17, -Int.not_le, -Int.not_lt, -Nat.not_le, -Nat.not_lt, ty3, ty4, ty28, ty29, ty31, ty49, ty67, ty70, ty71, ty76, hm, hl, hr, x41, fi41_eq, p41, fi53_eq, fi54_eq, k56, x56, fi56_eq, p56, x64, fi64_eq, p64, E14, q14_35, q14_69, e14_90, e14_71, e14_98, q14_137, e14_139, e14_147, e14_99, n14_25, n14_60, n14_79, n14_45, n14_12, n14_120, n14_103]
    exact H _ _ _ _ _ _ _ _ _ _ _ _ h8 h9 h10 h11 h12 h13 h14 h15 h16 h17
  | succ m ih =>
    intro q e8 e9 e10 e11 e12 e13 e14 e15 e16 e17 T X h8 h9 h10 h11 h12 h13 h14 h15 h16 h17 hq hm2 
    obtain ⟨x, hx⟩ : ∃ x, g[q]? = some x := ⟨g[q]'(by omega), List.getElem?_eq_getElem (by omega)⟩
    have hlt : (q : Int) < (g.length : Int) := by omega
    have hqi : (q : Int) < (i : Int) := by omega
    have hqi2 : q < i := by omega
    obtain ⟨hlt2, hxe⟩ := List.getElem?_eq_some_iff.1 hx
    have hw : IntKind.wrap .i64 ((q : Int) + 1) = ((q + 1 : Nat) : Int) := by rw [wrap64 (by omega) (by omega)]; omega
    have hxo := (hg1 x (List.mem_of_getElem? hx)).1
    have hsm := hap i q y x hy hx hqi2
    have kk : ∀ (fr : Fr) (st : St), callStep gS (EvF gS) 41 [.slice (encPreds y.filter), .slice (encPreds x.filter)] fr st = some (.ok (.val (.bool false)) fr st) := fun fr st => by rw [k41 _ _ hyo hxo fr st, hsm]; rfl
    have IH := fun e8 e9 e10 e11 e12 e13 e14 e15 e16 e17 T X h8 h9 h10 h11 h12 h13 h14 h15 h16 h17 => ih (q + 1) e8 e9 e10 e11 e12 e13 e14 e15 e16 e17 T X h8 h9 h10 h11 h12 h13 h14 h15 h16 h17 (by omega) (by omega)
    refine evK_loop c14_26 _ _ _ _ rfl ?_
    simp [-Int.natCast_add, h8, h9, h10, h11, h12, h13, h14, h15, h16, h17, hx, hxe, hlt, hlt2, hqi, hqi2, hw, hy, hye, hit, hil, kk, -Int.not_le, -Int.not_lt, -Nat.not_le, -Nat.not_lt, ty3, ty4, ty28, ty29, ty31, ty49, ty67, ty70, ty71, ty76, hm, hl, hr, x41, fi41_eq, p41, fi53_eq, fi54_eq, k56, x56, fi56_eq, p56, x64, fi64_eq, p64, E14, q14_35, q14_69, e14_90, e14_71, e14_98, q14_137, e14_139, e14_147, e14_99, n14_25, n14_60, n14_79, n14_45, n14_12, n14_120, n14_103]
    exact IH _ _ _ _ _ _ _ _ _ _ _ _ h8 h9 h10 h11 h12 h13 h14 h15 h16 h17
set_option maxHeartbeats 8000000 in
theorem LB (xs : List Sub) (hx1 : ∀ s ∈ xs, POk s.filter) (hx2 : xs.length ≤ 18) (g : List Grp) (hg1 : ∀ x ∈ g, POk x.filter ∧ x.clients.length < 1000) (hg2 : g.length ≤ 18) (l1 : List Int) (id : Nat) (S : St) (R : Out × St) (i k : Nat) (y : Grp) (hy : g[i]? = some y) (c0 : Int) (hcv : y.clients[k]? = some c0) (fin : Bool)
    (H : ∀ (e7 e11 e12 e13 e14 e15 e16 e17 : E) (T : List (Nat × E)) (X : List (Nat × List V)), e7.Tame → e11.Tame → e12.Tame → e13.Tame → e14.Tame → e15.Tame → e16.Tame → e17.Tame → evK gS fi14 c14_71 { ps := [(0, .val (.slice (intVs l1))), (2, .val (.bool false)), (3, .val (.ptr id 0)), (4, .val (.slice (encSubs xs))), (5, .val (.slice (encGrps g))), (6, .val (.int .i64 (i : Nat))), (7, e7), (8, .val (.int .i64 (k : Nat))), (9, .val (.bool fin)), (10, .val (.int .i64 xs.length)), (11, e11), (12, e12), (13, e13), (14, e14), (15, e15), (16, e16), (17, e17)], ts := T, lc := X } S (.blk 5 (.seq c14_97 (.loop c14_46 (.blk 4 (.blk 1 (.seq c14_98 (.loop c14_13 (.blk 0 (.seq c14_99 .nil))))))))) = some R) :
    ∀ (m q : Nat) (b : Bool) (e7 e11 e12 e13 e14 e15 e16 e17 : E) (T : List (Nat × E)) (X : List (Nat × List V)) (h7 : e7.Tame) (h11 : e11.Tame) (h12 : e12.Tame) (h13 : e13.Tame) (h14 : e14.Tame) (h15 : e15.Tame) (h16 : e16.Tame) (h17 : e17.Tame), q ≤ xs.length → xs.length - q = m → fin = (xs.drop q).foldl (fStep c0 y.filter) b →
    evK gS fi14 c14_60 { ps := [(0, .val (.slice (intVs l1))), (2, .val (.bool false)), (3, .val (.ptr id 0)), (4, .val (.slice (encSubs xs))), (5, .val (.slice (encGrps g))), (6, .val (.int .i64 (i : Nat))), (7, e7), (8, .val (.int .i64 (k : Nat))), (9, .val (.bool b)), (10, .val (.int .i64 (q : Nat))), (11, e11), (12, e12), (13, e13), (14, e14), (15, e15), (16, e16), (17, e17)], ts := T, lc := X } S (.blk 6 (.seq c14_71 (.blk 5 (.seq c14_97 (.loop c14_46 (.blk 4 (.blk 1 (.seq c14_98 (.loop c14_13 (.blk 0 (.seq c14_99 .nil))))))))))) = some R := by
  intro m
  have hm : fi14.marks = [] := rfl
  have hl : fi14.locals = [] := rfl
  have hr : fi14.results = [.tmp 2] := rfl
  obtain ⟨hil, hye⟩ := List.getElem?_eq_some_iff.1 hy
  have hit : (i : Int) < (g.length : Int) := by omega
  have hyo := (hg1 y (List.mem_of_getElem? hy)).1
  obtain ⟨hcl, hce⟩ := List.getElem?_eq_some_iff.1 hcv
  have hct : (k : Int) < (y.clients.length : Int) := by omega
  induction m with
  | zero =>
    intro q b e7 e11 e12 e13 e14 e15 e16 e17 T X h7 h11 h12 h13 h14 h15 h16 h17 hq hm2 hf
    obtain rfl : q = xs.length := by omega
    rw [List.drop_length, List.foldl_nil] at hf
    subst hf
    refine evK_loop c14_61 _ _ _ _ rfl ?_
    simp [-Int.natCast_add, h7, h11, h12, h13, h14, h15, h16, h17, -Int.not_le, -Int.not_lt, -Nat.not_le, -Nat.not_lt, ty3, ty4, ty28, ty29, ty31, ty49, ty67, ty70, ty71, ty76, hm, hl, hr, x41, fi41_eq, p41, fi53_eq, fi54_eq, k56, x56, fi56_eq, p56, x64, fi64_eq, p64, E14, q14_35, q14_69, e14_90, e14_42, e14_98, q14_137, e14_139, e14_147, e14_99, n14_25, n14_60, n14_79, n14_45, n14_12, n14_120, n14_103]
    exact H _ _ _ _ _ _ _ _ _ _ h7 h11 h12 h13 h14 h15 h16 h17
  | succ m ih =>
    intro q b e7 e11 e12 e13 e14 e15 e16 e17 T X h7 h11 h12 h13 h14 h15 h16 h17 hq hm2 hf
    obtain ⟨x, hx⟩ : ∃ x, xs[q]? = some x := ⟨xs[q]'(by omega), List.getElem?_eq_getElem (by omega)⟩
    have hlt : (q : Int) < (xs.length : Int) := by omega
    obtain ⟨hlt2, hxe⟩ := List.getElem?_eq_some_iff.1 hx
    have hw : IntKind.wrap .i64 ((q : Int) + 1) = ((q + 1 : Nat) : Int) := by rw [wrap64 (by omega) (by omega)]; omega
    have hxo := hx1 x (List.mem_of_getElem? hx)
    rw [drop_get hx, List.foldl_cons] at hf
    rw [show fStep c0 y.filter b x = (b || (decide (x.client = c0) && fsame x.filter y.filter)) from rfl] at hf
    have kk : ∀ (fr : Fr) (st : St), callStep gS (EvF gS) 41 [.slice (encPreds x.filter), .slice (encPreds y.filter)] fr st = some (.ok (.val (.bool (fsame x.filter y.filter))) fr st) := fun fr st => k41 _ _ hxo hyo fr st
    have IH := fun e7 e11 e12 e13 e14 e15 e16 e17 T X h7 h11 h12 h13 h14 h15 h16 h17 => ih (q + 1) _ e7 e11 e12 e13 e14 e15 e16 e17 T X h7 h11 h12 h13 h14 h15 h16 h17 (by omega) (by omega) hf
    generalize fsame x.filter y.filter = z at *
    refine evK_loop c14_61 _ _ _ _ rfl ?_
    cases b with
    | true =>
      simp only [Bool.true_or] at IH
      simp [-Int.natCast_add, h7, h11, h12, h13, h14, h15, h16, h17, hx, hxe, hlt, hlt2, hw, -Int.not_le, -Int.not_lt, -Nat.not_le, -Nat.not_lt, ty3, ty4, ty28, ty29, ty31, ty49, ty67, ty70, ty71, ty76, hm, hl, hr, x41, fi41_eq, p41, fi53_eq, fi54_eq, k56, x56, fi56_eq, p56, x64, fi64_eq, p64, E14, q14_35, q14_69, e14_90, e14_42, e14_98, q14_137, e14_139, e14_147, e14_99, n14_25, n14_60, n14_79, n14_45, n14_12, n14_120, n14_103]
      exact IH _ _ _ _ _ _ _ _ _ _ h7 h11 h12 h13 h14 h15 h16 h17
    | false =>
      simp only [Bool.false_or] at IH
      by_cases hcc : x.client = c0
      · simp only [hcc, decide_true, Bool.true_and] at IH
        simp [-Int.natCast_add, h7, h11, h12, h13, h14, h15, h16, h17, hx, hxe, hlt, hlt2, hw, hy, hye, hit, hil, hcv, hce, hct, hcl, hcc, kk, -Int.not_le, -Int.not_lt, -Nat.not_le, -Nat.not_lt, ty3, ty4, ty28, ty29, ty31, ty49, ty67, ty70, ty71, ty76, hm, hl, hr, x41, fi41_eq, p41, fi53_eq, fi54_eq, k56, x56, fi56_eq, p56, x64, fi64_eq, p64, E14, q14_35, q14_69, e14_90, e14_42, e14_98, q14_137, e14_139, e14_147, e14_99, n14_25, n14_60, n14_79, n14_45, n14_12, n14_120, n14_103]
        exact IH _ _ _ _ _ _ _ _ _ _ h7 h11 h12 h13 h14 h15 h16 h17
      · simp only [hcc, decide_false, Bool.false_and] at IH
        simp [-Int.natCast_add, h7, h11, h12, h13, h14, h15, h16, h17, hx, hxe, hlt, hlt2, hw, hy, hye, hit, hil, hcv, hce, hct, hcl, hcc, -Int.not_le, -Int.not_lt, -Nat.not_le, -Nat.not_lt, ty3, ty4, ty28, ty29, ty31, ty49, ty67, ty70, ty71, ty76, hm, hl, hr, x41, fi41_eq, p41, fi53_eq, fi54_eq, k56, x56, fi56_eq, p56, x64, fi64_eq, p64, E14, q14_35, q14_69, e14_90, e14_42, e14_98, q14_137, e14_139, e14_147, e14_99, n14_25, n14_60, n14_79, n14_45, n14_12, n14_120, n14_103]
        exact IH _ _ _ _ _ _ _ _ _ _ h7 h11 h12 h13 h14 h15 h16 h17
set_option maxHeartbeats 8000000 in
theorem LC (xs : List Sub) (hx1 : ∀ s ∈ xs, POk s.filter) (hx2 : xs.length ≤ 18) (g : List Grp) (hg1 : ∀ x ∈ g, POk x.filter ∧ x.clients.length < 1000) (hg2 : g.length ≤ 18) (l1 : List Int) (id : Nat) (S : St) (R : Out × St) (ms : List Int) (hms : ms.length ≤ 18) (i k : Nat) (fin : Bool)
    (H : ∀ (e7 e10 e14 e15 e16 e17 : E) (T : List (Nat × E)) (X : List (Nat × List V)), e7.Tame → e10.Tame → e14.Tame → e15.Tame → e16.Tame → e17.Tame → evK gS fi14 c14_90 { ps := [(0, .val (.slice (intVs l1))), (2, .val (.bool false)), (3, .val (.ptr id 0)), (4, .val (.slice (encSubs xs))), (5, .val (.slice (encGrps g))), (6, .val (.int .i64 (i : Nat))), (7, e7), (8, .val (.int .i64 (k : Nat))), (9, .val (.bool true)), (10, e10), (11, .val (.slice (intVs ms))), (12, .val (.bool fin)), (13, .val (.int .i64 ms.length)), (14, e14), (15, e15), (16, e16), (17, e17)], ts := T, lc := X } S (.blk 5 (.seq c14_97 (.loop c14_46 (.blk 4 (.blk 1 (.seq c14_98 (.loop c14_13 (.blk 0 (.seq c14_99 .nil))))))))) = some R) :
    ∀ (m q : Nat) (b : Bool) (e7 e10 e14 e15 e16 e17 : E) (T : List (Nat × E)) (X : List (Nat × List V)) (h7 : e7.Tame) (h10 : e10.Tame) (h14 : e14.Tame) (h15 : e15.Tame) (h16 : e16.Tame) (h17 : e17.Tame), q ≤ ms.length → ms.length - q = m → fin = (ms.drop q).foldl (iStep i) b →
    evK gS fi14 c14_79 { ps := [(0, .val (.slice (intVs l1))), (2, .val (.bool false)), (3, .val (.ptr id 0)), (4, .val (.slice (encSubs xs))), (5, .val (.slice (encGrps g))), (6, .val (.int .i64 (i : Nat))), (7, e7), (8, .val (.int .i64 (k : Nat))), (9, .val (.bool true)), (10, e10), (11, .val (.slice (intVs ms))), (12, .val (.bool b)), (13, .val (.int .i64 (q : Nat))), (14, e14), (15, e15), (16, e16), (17, e17)], ts := T, lc := X } S (.blk 8 (.seq c14_90 (.blk 5 (.seq c14_97 (.loop c14_46 (.blk 4 (.blk 1 (.seq c14_98 (.loop c14_13 (.blk 0 (.seq c14_99 .nil))))))))))) = some R := by
  intro m
  have hm : fi14.marks = [] := rfl
  have hl : fi14.locals = [] := rfl
  have hr : fi14.results = [.tmp 2] := rfl
  induction m with
  | zero =>
    intro q b e7 e10 e14 e15 e16 e17 T X h7 h10 h14 h15 h16 h17 hq hm2 hf
    obtain rfl : q = ms.length := by omega
    rw [List.drop_length, List.foldl_nil] at hf
    subst hf
    refine evK_loop c14_80 _ _ _ _ rfl ?_
    simp [-Int.natCast_add, h7, h10, h14, h15, h16, h17, -Int.not_le, -Int.not_lt, -Nat.not_le, -Nat.not_lt, ty3, ty4, ty28, ty29, ty31, ty49, ty67, ty70, ty71, ty76, hm, hl, hr, x41, fi41_eq, p41, fi53_eq, fi54_eq, k56, x56, fi56_eq, p56, x64, fi64_eq, p64, E14, q14_35, q14_69, e14_71, e14_42, e14_98, q14_137, e14_139, e14_147, e14_99, n14_25, n14_60, n14_79, n14_45, n14_12, n14_120, n14_103]
    exact H _ _ _ _ _ _ _ _ h7 h10 h14 h15 h16 h17
  | succ m ih =>
    intro q b e7 e10 e14 e15 e16 e17 T X h7 h10 h14 h15 h16 h17 hq hm2 hf
    obtain ⟨x, hx⟩ : ∃ x, ms[q]? = some x := ⟨ms[q]'(by omega), List.getElem?_eq_getElem (by omega)⟩
    have hlt : (q : Int) < (ms.length : Int) := by omega
    obtain ⟨hlt2, hxe⟩ := List.getElem?_eq_some_iff.1 hx
    have hw : IntKind.wrap .i64 ((q : Int) + 1) = ((q + 1 : Nat) : Int) := by rw [wrap64 (by omega) (by omega)]; omega
    rw [drop_get hx, List.foldl_cons] at hf
    rw [show iStep i b x = (b || decide (x = (i : Int))) from rfl] at hf
    have IH := fun e7 e10 e14 e15 e16 e17 T X h7 h10 h14 h15 h16 h17 => ih (q + 1) _ e7 e10 e14 e15 e16 e17 T X h7 h10 h14 h15 h16 h17 (by omega) (by omega) hf
    refine evK_loop c14_80 _ _ _ _ rfl ?_
    cases b with
    | true =>
      simp only [Bool.true_or] at IH
      simp [-Int.natCast_add, h7, h10, h14, h15, h16, h17, hx, hxe, hlt, hlt2, hw, -Int.not_le, -Int.not_lt, -Nat.not_le, -Nat.not_lt, ty3, ty4, ty28, ty29, ty31, ty49, ty67, ty70, ty71, ty76, hm, hl, hr, x41, fi41_eq, p41, fi53_eq, fi54_eq, k56, x56, fi56_eq, p56, x64, fi64_eq, p64, E14, q14_35, q14_69, e14_71, e14_42, e14_98, q14_137, e14_139, e14_147, e14_99, n14_25, n14_60, n14_79, n14_45, n14_12, n14_120, n14_103]
      exact IH _ _ _ _ _ _ _ _ h7 h10 h14 h15 h16 h17
    | false =>
      simp only [Bool.false_or] at IH
      by_cases hcc : x = (i : Int)
      · subst hcc
        simp only [decide_true] at IH
        simp [-Int.natCast_add, h7, h10, h14, h15, h16, h17, hx, hxe, hlt, hlt2, hw, -Int.not_le, -Int.not_lt, -Nat.not_le, -Nat.not_lt, ty3, ty4, ty28, ty29, ty31, ty49, ty67, ty70, ty71, ty76, hm, hl, hr, x41, fi41_eq, p41, fi53_eq, fi54_eq, k56, x56, fi56_eq, p56, x64, fi64_eq, p64, E14, q14_35, q14_69, e14_71, e14_42, e14_98, q14_137, e14_139, e14_147, e14_99, n14_25, n14_60, n14_79, n14_45, n14_12, n14_120, n14_103]
        exact IH _ _ _ _ _ _ _ _ h7 h10 h14 h15 h16 h17
      · simp only [hcc, decide_false] at IH
        simp [-Int.natCast_add, h7, h10, h14, h15, h16, h17, hx, hxe, hlt, hlt2, hw, hcc, -Int.not_le, -Int.not_lt, -Nat.not_le, -Nat.not_lt, ty3, ty4, ty28, ty29, ty31, ty49, ty67, ty70, ty71, ty76, hm, hl, hr, x41, fi41_eq, p41, fi53_eq, fi54_eq, k56, x56, fi56_eq, p56, x64, fi64_eq, p64, E14, q14_35, q14_69, e14_71, e14_42, e14_98, q14_137, e14_139, e14_147, e14_99, n14_25, n14_60, n14_79, n14_45, n14_12, n14_120, n14_103]
        exact IH _ _ _ _ _ _ _ _ h7 h10 h14 h15 h16 h17
set_option maxHeartbeats 8000000 in
theorem LF (xs : List Sub) (hx1 : ∀ s ∈ xs, POk s.filter) (hx2 : xs.length ≤ 18) (g : List Grp) (hg1 : ∀ x ∈ g, POk x.filter ∧ x.clients.length < 1000) (hg2 : g.length ≤ 18) (l1 : List Int) (id : Nat) (S : St) (R : Out × St) (ms : List Int) (hms : ms.length ≤ 18) (hmr : ∀ m ∈ ms, 0 ≤ m ∧ m < g.length) (j : Nat) (x0 : Sub) (hx0 : xs[j]? = some x0) (fin : Bool)
    (H : ∀ (e6 e7 e8 e9 e10 e11 e12 e13 : E) (T : List (Nat × E)) (X : List (Nat × List V)), e6.Tame → e7.Tame → e8.Tame → e9.Tame → e10.Tame → e11.Tame → e12.Tame → e13.Tame → evK gS fi14 c14_139 { ps := [(0, .val (.slice (intVs l1))), (2, .val (.bool false)), (3, .val (.ptr id 0)), (4, .val (.slice (encSubs xs))), (5, .val (.slice (encGrps g))), (6, e6), (7, e7), (8, e8), (9, e9), (10, e10), (11, e11), (12, e12), (13, e13), (14, .val (.int .i64 (j : Nat))), (15, .val (.slice (intVs ms))), (16, .val (.bool fin)), (17, .val (.int .i64 ms.length))], ts := T, lc := X } S (.blk 11 (.seq c14_146 (.loop c14_104 (.blk 10 (.seq c14_147 .nil))))) = some R) :
    ∀ (m q : Nat) (b : Bool) (e6 e7 e8 e9 e10 e11 e12 e13 : E) (T : List (Nat × E)) (X : List (Nat × List V)) (h6 : e6.Tame) (h7 : e7.Tame) (h8 : e8.Tame) (h9 : e9.Tame) (h10 : e10.Tame) (h11 : e11.Tame) (h12 : e12.Tame) (h13 : e13.Tame), q ≤ ms.length → ms.length - q = m → fin = (ms.drop q).foldl (mStep g x0.filter) b →
    evK gS fi14 c14_120 { ps := [(0, .val (.slice (intVs l1))), (2, .val (.bool false)), (3, .val (.ptr id 0)), (4, .val (.slice (encSubs xs))), (5, .val (.slice (encGrps g))), (6, e6), (7, e7), (8, e8), (9, e9), (10, e10), (11, e11), (12, e12), (13, e13), (14, .val (.int .i64 (j : Nat))), (15, .val (.slice (intVs ms))), (16, .val (.bool b)), (17, .val (.int .i64 (q : Nat)))], ts := T, lc := X } S (.blk 12 (.seq c14_139 (.blk 11 (.seq c14_146 (.loop c14_104 (.blk 10 (.seq c14_147 .nil))))))) = some R := by
  intro m
  have hm : fi14.marks = [] := rfl
  have hl : fi14.locals = [] := rfl
  have hr : fi14.results = [.tmp 2] := rfl
  obtain ⟨hjl, hje⟩ := List.getElem?_eq_some_iff.1 hx0
  have hjt : (j : Int) < (xs.length : Int) := by omega
  have hxo := hx1 x0 (List.mem_of_getElem? hx0)
  induction m with
  | zero =>
    intro q b e6 e7 e8 e9 e10 e11 e12 e13 T X h6 h7 h8 h9 h10 h11 h12 h13 hq hm2 hf
    obtain rfl : q = ms.length := by omega
    rw [List.drop_length, List.foldl_nil] at hf
    subst hf
    refine evK_loop c14_121 _ _ _ _ rfl ?_
    simp [-Int.natCast_add, h6, h7, h8, h9, h10, h11, h12, h13, -Int.not_le, -Int.not_lt, -Nat.not_le, -Nat.not_lt, ty3, ty4, ty28, ty29, ty31, ty49, ty67, ty70, ty71, ty76, hm, hl, hr, x41, fi41_eq, p41, fi53_eq, fi54_eq, k56, x56, fi56_eq, p56, x64, fi64_eq, p64, E14, q14_35, q14_69, e14_90, e14_71, e14_42, e14_98, q14_137, e14_147, e14_99, n14_25, n14_60, n14_79, n14_45, n14_12, n14_120, n14_103]
    exact H _ _ _ _ _ _ _ _ _ _ h6 h7 h8 h9 h10 h11 h12 h13
  | succ m ih =>
    intro q b e6 e7 e8 e9 e10 e11 e12 e13 T X h6 h7 h8 h9 h10 h11 h12 h13 hq hm2 hf
    obtain ⟨x, hx⟩ : ∃ x, ms[q]? = some x := ⟨ms[q]'(by omega), List.getElem?_eq_getElem (by omega)⟩
    have hlt : (q : Int) < (ms.length : Int) := by omega
    obtain ⟨hlt2, hxe⟩ := List.getElem?_eq_some_iff.1 hx
    have hw : IntKind.wrap .i64 ((q : Int) + 1) = ((q + 1 : Nat) : Int) := by rw [wrap64 (by omega) (by omega)]; omega
    obtain ⟨m0, m1⟩ := hmr x (List.mem_of_getElem? hx)
    rw [drop_get hx, List.foldl_cons] at hf
    obtain ⟨p, rfl⟩ : ∃ p : Nat, x = (p : Int) := ⟨x.toNat, by omega⟩
    obtain ⟨y, hy⟩ : ∃ y, g[p]? = some y := ⟨g[p]'(by omega), List.getElem?_eq_getElem (by omega)⟩
    obtain ⟨hpl, hpe⟩ := List.getElem?_eq_some_iff.1 hy
    have hyo := (hg1 y (List.mem_of_getElem? hy)).1
    rw [show mStep g x0.filter b (p : Int) = (b || fsame y.filter x0.filter) from by unfold mStep gAt; rw [Int.toNat_natCast, hy]; rfl] at hf
    have kk : ∀ (fr : Fr) (st : St), callStep gS (EvF gS) 41 [.slice (encPreds y.filter), .slice (encPreds x0.filter)] fr st = some (.ok (.val (.bool (fsame y.filter x0.filter))) fr st) := fun fr st => k41 _ _ hyo hxo fr st
    have IH := fun e6 e7 e8 e9 e10 e11 e12 e13 T X h6 h7 h8 h9 h10 h11 h12 h13 => ih (q + 1) _ e6 e7 e8 e9 e10 e11 e12 e13 T X h6 h7 h8 h9 h10 h11 h12 h13 (by omega) (by omega) hf
    have n0 : ¬ ((p : Int) < 0) := by omega
    have n1 : ¬ ((g.length : Int) ≤ (p : Int)) := by omega
    have n1' : ¬ (g.length ≤ p) := by omega
    generalize fsame y.filter x0.filter = z at *
    refine evK_loop c14_121 _ _ _ _ rfl ?_
    cases b with
    | true =>
      simp only [Bool.true_or] at IH
      simp [-Int.natCast_add, h6, h7, h8, h9, h10, h11, h12, h13, hx, hxe, hlt, hlt2, hw, n0, n1, n1', -Int.not_le, -Int.not_lt, -Nat.not_le, -Nat.not_lt, ty3, ty4, ty28, ty29, ty31, ty49, ty67, ty70, ty71, ty76, hm, hl, hr, x41, fi41_eq, p41, fi53_eq, fi54_eq, k56, x56, fi56_eq, p56, x64, fi64_eq, p64, E14, q14_35, q14_69, e14_90, e14_71, e14_42, e14_98, q14_137, e14_147, e14_99, n14_25, n14_60, n14_79, n14_45, n14_12, n14_120, n14_103]
      exact IH _ _ _ _ _ _ _ _ _ _ h6 h7 h8 h9 h10 h11 h12 h13
    | false =>
      simp only [Bool.false_or] at IH
      simp [-Int.natCast_add, h6, h7, h8, h9, h10, h11, h12, h13, hx, hxe, hlt, hlt2, hw, n0, n1, n1', hy, hpl, hpe, m1, hx0, hje, hjl, hjt, kk, -Int.not_le, -Int.not_lt, -Nat.not_le, -Nat.not_lt, ty3, ty4, ty28, ty29, ty31, ty49, ty67, ty70, ty71, ty76, hm, hl, hr, x41, fi41_eq, p41, fi53_eq, fi54_eq, k56, x56, fi56_eq, p56, x64, fi64_eq, p64, E14, q14_35, q14_69, e14_90, e14_71, e14_42, e14_98, q14_137, e14_147, e14_99, n14_25, n14_60, n14_79, n14_45, n14_12, n14_120, n14_103]
      exact IH _ _ _ _ _ _ _ _ _ _ h6 h7 h8 h9 h10 h11 h12 h13
set_option maxHeartbeats 8000000 in
theorem LD (xs : List Sub) (hx1 : ∀ s ∈ xs, POk s.filter) (hx2 : xs.length ≤ 18) (g : List Grp) (hg1 : ∀ x ∈ g, POk x.filter ∧ x.clients.length < 1000) (hg2 : g.length ≤ 18) (l1 : List Int) (id : Nat) (S : St) (R : Out × St) (i : Nat) (y : Grp) (hy : g[i]? = some y) (hft : ∀ c ∈ y.clients, xs.foldl (fStep c y.filter) false = true) (hit2 : ∀ c ∈ y.clients, (gmine g c).foldl (iStep i) false = true) (hgm : ∀ c, (gmine g c).length ≤ 18) 
    (H : ∀ (e7 e9 e10 e11 e12 e13 e14 e15 e16 e17 : E) (T : List (Nat × E)) (X : List (Nat × List V)), e7.Tame → e9.Tame → e10.Tame → e11.Tame → e12.Tame → e13.Tame → e14.Tame → e15.Tame → e16.Tame → e17.Tame → evK gS fi14 c14_98 { ps := [(0, .val (.slice (intVs l1))), (2, .val (.bool false)), (3, .val (.ptr id 0)), (4, .val (.slice (encSubs xs))), (5, .val (.slice (encGrps g))), (6, .val (.int .i64 (i : Nat))), (7, e7), (8, .val (.int .i64 y.clients.length)), (9, e9), (10, e10), (11, e11), (12, e12), (13, e13), (14, e14), (15, e15), (16, e16), (17, e17)], ts := T, lc := X } S (.loop c14_13 (.blk 0 (.seq c14_99 .nil))) = some R) :
    ∀ (m q : Nat) (e7 e9 e10 e11 e12 e13 e14 e15 e16 e17 : E) (T : List (Nat × E)) (X : List (Nat × List V)) (h7 : e7.Tame) (h9 : e9.Tame) (h10 : e10.Tame) (h11 : e11.Tame) (h12 : e12.Tame) (h13 : e13.Tame) (h14 : e14.Tame) (h15 : e15.Tame) (h16 : e16.Tame) (h17 : e17.Tame), q ≤ y.clients.length → y.clients.length - q = m → 
    evK gS fi14 c14_45 { ps := [(0, .val (.slice (intVs l1))), (2, .val (.bool false)), (3, .val (.ptr id 0)), (4, .val (.slice (encSubs xs))), (5, .val (.slice (encGrps g))), (6, .val (.int .i64 (i : Nat))), (7, e7), (8, .val (.int .i64 (q : Nat))), (9, e9), (10, e10), (11, e11), (12, e12), (13, e13), (14, e14), (15, e15), (16, e16), (17, e17)], ts := T, lc := X } S (.blk 4 (.blk 1 (.seq c14_98 (.loop c14_13 (.blk 0 (.seq c14_99 .nil)))))) = some R := by
  intro m
  have hm : fi14.marks = [] := rfl
  have hl : fi14.locals = [] := rfl
  have hr : fi14.results = [.tmp 2] := rfl
  obtain ⟨hil, hye⟩ := List.getElem?_eq_some_iff.1 hy
  have hit : (i : Int) < (g.length : Int) := by omega
  have hyc := (hg1 y (List.mem_of_getElem? hy)).2
  induction m with
  | zero =>
    intro q e7 e9 e10 e11 e12 e13 e14 e15 e16 e17 T X h7 h9 h10 h11 h12 h13 h14 h15 h16 h17 hq hm2 
    obtain rfl : q = y.clients.length := by omega
    have hlt : ¬ (y.clients.length < y.clients.length) := by omega
    refine evK_loop c14_46 _ _ _ _ rfl ?_
    simp [-Int.natCast_add, h7, h9, h10, h11, h12, h13, h14, h15, h16, h17, hy, hye, hit, hil, -Int.not_le, -Int.not_lt, -Nat.not_le, -Nat.not_lt, ty3, ty4, ty28, ty29, ty31, ty49, ty67, ty70, ty71, ty76, hm, hl, hr, x41, fi41_eq, p41, fi53_eq, fi54_eq, k56, x56, fi56_eq, p56, x64, fi64_eq, p64, E14, q14_35, q14_69, e14_90, e14_71, e14_42, q14_137, e14_139, e14_147, e14_99, n14_25, n14_60, n14_79, n14_45, n14_12, n14_120, n14_103]
    exact H _ _ _ _ _ _ _ _ _ _ _ _ h7 h9 h10 h11 h12 h13 h14 h15 h16 h17
  | succ m ih =>
    intro q e7 e9 e10 e11 e12 e13 e14 e15 e16 e17 T X h7 h9 h10 h11 h12 h13 h14 h15 h16 h17 hq hm2 
    obtain ⟨c0, hx⟩ : ∃ x, y.clients[q]? = some x := ⟨y.clients[q]'(by omega), List.getElem?_eq_getElem (by omega)⟩
    have hlt : (q : Int) < (y.clients.length : Int) := by omega
    obtain ⟨hlt2, hxe⟩ := List.getElem?_eq_some_iff.1 hx
    have hw : IntKind.wrap .i64 ((q : Int) + 1) = ((q + 1 : Nat) : Int) := by rw [wrap64 (by omega) (by omega)]; omega
    have hcm := List.mem_of_getElem? hx
    have f1 := hft c0 hcm
    have f2 := hit2 c0 hcm
    have f3 := hgm c0
    have kk := fun fr st => k64 g hg1 (by omega) c0 fr st
    have IH := fun e7 e9 e10 e11 e12 e13 e14 e15 e16 e17 T X h7 h9 h10 h11 h12 h13 h14 h15 h16 h17 => ih (q + 1) e7 e9 e10 e11 e12 e13 e14 e15 e16 e17 T X h7 h9 h10 h11 h12 h13 h14 h15 h16 h17 (by omega) (by omega)
    have H90 : ∀ (e7 e10 e14 e15 e16 e17 : E) (T : List (Nat × E)) (X : List (Nat × List V)), e7.Tame → e10.Tame → e14.Tame → e15.Tame → e16.Tame → e17.Tame → evK gS fi14 c14_90 { ps := [(0, .val (.slice (intVs l1))), (2, .val (.bool false)), (3, .val (.ptr id 0)), (4, .val (.slice (encSubs xs))), (5, .val (.slice (encGrps g))), (6, .val (.int .i64 (i : Nat))), (7, e7), (8, .val (.int .i64 (q : Nat))), (9, .val (.bool true)), (10, e10), (11, .val (.slice (intVs (gmine g c0)))), (12, .val (.bool true)), (13, .val (.int .i64 (gmine g c0).length)), (14, e14), (15, e15), (16, e16), (17, e17)], ts := T, lc := X } S (.blk 5 (.seq c14_97 (.loop c14_46 (.blk 4 (.blk 1 (.seq c14_98 (.loop c14_13 (.blk 0 (.seq c14_99 .nil))))))))) = some R := by
      intro e7 e10 e14 e15 e16 e17 T X h7 h10 h14 h15 h16 h17
      simp [-Int.natCast_add, h7, h10, h14, h15, h16, h17, hw, -Int.not_le, -Int.not_lt, -Nat.not_le, -Nat.not_lt, ty3, ty4, ty28, ty29, ty31, ty49, ty67, ty70, ty71, ty76, hm, hl, hr, x41, fi41_eq, p41, fi53_eq, fi54_eq, k56, x56, fi56_eq, p56, x64, fi64_eq, p64, E14, q14_35, q14_69, e14_90, e14_71, e14_42, q14_137, e14_139, e14_147, e14_99, n14_25, n14_60, n14_79, n14_45, n14_12, n14_120, n14_103]
      exact IH _ _ _ _ _ _ _ _ _ _ _ _ h7 (tame_val _) h10 (tame_val _) (tame_val _) (tame_val _) h14 h15 h16 h17
    have H71 : ∀ (e7 e11 e12 e13 e14 e15 e16 e17 : E) (T : List (Nat × E)) (X : List (Nat × List V)), e7.Tame → e11.Tame → e12.Tame → e13.Tame → e14.Tame → e15.Tame → e16.Tame → e17.Tame → evK gS fi14 c14_71 { ps := [(0, .val (.slice (intVs l1))), (2, .val (.bool false)), (3, .val (.ptr id 0)), (4, .val (.slice (encSubs xs))), (5, .val (.slice (encGrps g))), (6, .val (.int .i64 (i : Nat))), (7, e7), (8, .val (.int .i64 (q : Nat))), (9, .val (.bool true)), (10, .val (.int .i64 xs.length)), (11, e11), (12, e12), (13, e13), (14, e14), (15, e15), (16, e16), (17, e17)], ts := T, lc := X } S (.blk 5 (.seq c14_97 (.loop c14_46 (.blk 4 (.blk 1 (.seq c14_98 (.loop c14_13 (.blk 0 (.seq c14_99 .nil))))))))) = some R := by
      intro e7 e11 e12 e13 e14 e15 e16 e17 T X h7 h11 h12 h13 h14 h15 h16 h17
      have LL := fun e7 e10 e14 e15 e16 e17 T X h7 h10 h14 h15 h16 h17 => LC xs hx1 hx2 g hg1 hg2 l1 id S R (gmine g c0) f3 i q true H90 (gmine g c0).length 0 false e7 e10 e14 e15 e16 e17 T X h7 h10 h14 h15 h16 h17 (Nat.zero_le _) rfl (by rw [List.drop_zero]; exact f2.symm)
      rw [show ((0 : Nat) : Int) = 0 from rfl] at LL
      simp [-Int.natCast_add, h7, h11, h12, h13, h14, h15, h16, h17, hx, hxe, hlt, hlt2, hy, hye, hit, hil, kk, -Int.not_le, -Int.not_lt, -Nat.not_le, -Nat.not_lt, ty3, ty4, ty28, ty29, ty31, ty49, ty67, ty70, ty71, ty76, hm, hl, hr, x41, fi41_eq, p41, fi53_eq, fi54_eq, k56, x56, fi56_eq, p56, x64, fi64_eq, p64, E14, q14_35, q14_69, e14_90, e14_71, e14_42, q14_137, e14_139, e14_147, e14_99, n14_25, n14_60, n14_79, n14_45, n14_12, n14_120, n14_103]
      exact LL _ _ _ _ _ _ _ _ h7 (tame_val _) h14 h15 h16 h17
    have LBB := fun e7 e11 e12 e13 e14 e15 e16 e17 T X h7 h11 h12 h13 h14 h15 h16 h17 => LB xs hx1 hx2 g hg1 hg2 l1 id S R i q y hy c0 hx true H71 xs.length 0 false e7 e11 e12 e13 e14 e15 e16 e17 T X h7 h11 h12 h13 h14 h15 h16 h17 (Nat.zero_le _) rfl (by rw [List.drop_zero]; exact f1.symm)
    rw [show ((0 : Nat) : Int) = 0 from rfl] at LBB
    refine evK_loop c14_46 _ _ _ _ rfl ?_
    simp [-Int.natCast_add, h7, h9, h10, h11, h12, h13, h14, h15, h16, h17, hx, hxe, hlt, hlt2, hy, hye, hit, hil, -Int.not_le, -Int.not_lt, -Nat.not_le, -Nat.not_lt, ty3, ty4, ty28, ty29, ty31, ty49, ty67, ty70, ty71, ty76, hm, hl, hr, x41, fi41_eq, p41, fi53_eq, fi54_eq, k56, x56, fi56_eq, p56, x64, fi64_eq, p64, E14, q14_35, q14_69, e14_90, e14_71, e14_42, q14_137, e14_139, e14_147, e14_99, n14_25, n14_60, n14_79, n14_45, n14_12, n14_120, n14_103]
    exact LBB _ _ _ _ _ _ _ _ _ _ h7 h11 h12 h13 h14 h15 h16 h17
set_option maxHeartbeats 8000000 in
theorem LE (xs : List Sub) (hx1 : ∀ s ∈ xs, POk s.filter) (hx2 : xs.length ≤ 18) (g : List Grp) (hg1 : ∀ x ∈ g, POk x.filter ∧ x.clients.length < 1000) (hg2 : g.length ≤ 18) (l1 : List Int) (id : Nat) (S : St) (R : Out × St) (hap : ∀ (i k : Nat) (a b : Grp), g[i]? = some a → g[k]? = some b → k < i → fsame a.filter b.filter = false) (hft : ∀ y ∈ g, ∀ c ∈ y.clients, xs.foldl (fStep c y.filter) false = true) (hit2 : ∀ (i : Nat) (y : Grp), g[i]? = some y → ∀ c ∈ y.clients, (gmine g c).foldl (iStep i) false = true) (hgm : ∀ c, (gmine g c).length ≤ 18) 
    (H : ∀ (e7 e8 e9 e10 e11 e12 e13 e14 e15 e16 e17 : E) (T : List (Nat × E)) (X : List (Nat × List V)), e7.Tame → e8.Tame → e9.Tame → e10.Tame → e11.Tame → e12.Tame → e13.Tame → e14.Tame → e15.Tame → e16.Tame → e17.Tame → evK gS fi14 c14_99 { ps := [(0, .val (.slice (intVs l1))), (2, .val (.bool false)), (3, .val (.ptr id 0)), (4, .val (.slice (encSubs xs))), (5, .val (.slice (encGrps g))), (6, .val (.int .i64 g.length)), (7, e7), (8, e8), (9, e9), (10, e10), (11, e11), (12, e12), (13, e13), (14, e14), (15, e15), (16, e16), (17, e17)], ts := T, lc := X } S .nil = some R) :
    ∀ (m q : Nat) (e7 e8 e9 e10 e11 e12 e13 e14 e15 e16 e17 : E) (T : List (Nat × E)) (X : List (Nat × List V)) (h7 : e7.Tame) (h8 : e8.Tame) (h9 : e9.Tame) (h10 : e10.Tame) (h11 : e11.Tame) (h12 : e12.Tame) (h13 : e13.Tame) (h14 : e14.Tame) (h15 : e15.Tame) (h16 : e16.Tame) (h17 : e17.Tame), q ≤ g.length → g.length - q = m → 
    evK gS fi14 c14_12 { ps := [(0, .val (.slice (intVs l1))), (2, .val (.bool false)), (3, .val (.ptr id 0)), (4, .val (.slice (encSubs xs))), (5, .val (.slice (encGrps g))), (6, .val (.int .i64 (q : Nat))), (7, e7), (8, e8), (9, e9), (10, e10), (11, e11), (12, e12), (13, e13), (14, e14), (15, e15), (16, e16), (17, e17)], ts := T, lc := X } S (.blk 0 (.seq c14_99 .nil)) = some R := by
  intro m
  have hm : fi14.marks = [] := rfl
  have hl : fi14.locals = [] := rfl
  have hr : fi14.results = [.tmp 2] := rfl
  induction m with
  | zero =>
    intro q e7 e8 e9 e10 e11 e12 e13 e14 e15 e16 e17 T X h7 h8 h9 h10 h11 h12 h13 h14 h15 h16 h17 hq hm2 
    obtain rfl : q = g.length := by omega
    refine evK_loop c14_13 _ _ _ _ rfl ?_
    simp [-Int.natCast_add, h7, h8, h9, h10, h11, h12, h13, h14, h15, h16, h17, -Int.not_le, -Int.not_lt, -Nat.not_le, -Nat.not_lt, ty3, ty4, ty28, ty29, ty31, ty49, ty67, ty70, ty71, ty76, hm, hl, hr, x41, fi41_eq, p41, fi53_eq, fi54_eq, k56, x56, fi56_eq, p56, x64, fi64_eq, p64, E14, q14_35, q14_69, e14_90, e14_71, e14_42, e14_98, q14_137, e14_139, e14_147, n14_25, n14_60, n14_79, n14_45, n14_12, n14_120, n14_103]
    exact H _ _ _ _ _ _ _ _ _ _ _ _ _ h7 h8 h9 h10 h11 h12 h13 h14 h15 h16 h17
  | succ m ih =>
    intro q e7 e8 e9 e10 e11 e12 e13 e14 e15 e16 e17 T X h7 h8 h9 h10 h11 h12 h13 h14 h15 h16 h17 hq hm2 
    obtain ⟨y, hy⟩ : ∃ x, g[q]? = some x := ⟨g[q]'(by omega), List.getElem?_eq_getElem (by omega)⟩
    have hlt : (q : Int) < (g.length : Int) := by omega
    obtain ⟨hlt2, hxe⟩ := List.getElem?_eq_some_iff.1 hy
    have hw : IntKind.wrap .i64 ((q : Int) + 1) = ((q + 1 : Nat) : Int) := by rw [wrap64 (by omega) (by omega)]; omega
    have IH := fun e7 e8 e9 e10 e11 e12 e13 e14 e15 e16 e17 T X h7 h8 h9 h10 h11 h12 h13 h14 h15 h16 h17 => ih (q + 1) e7 e8 e9 e10 e11 e12 e13 e14 e15 e16 e17 T X h7 h8 h9 h10 h11 h12 h13 h14 h15 h16 h17 (by omega) (by omega)
    have H98 : ∀ (e7 e9 e10 e11 e12 e13 e14 e15 e16 e17 : E) (T : List (Nat × E)) (X : List (Nat × List V)), e7.Tame → e9.Tame → e10.Tame → e11.Tame → e12.Tame → e13.Tame → e14.Tame → e15.Tame → e16.Tame → e17.Tame → evK gS fi14 c14_98 { ps := [(0, .val (.slice (intVs l1))), (2, .val (.bool false)), (3, .val (.ptr id 0)), (4, .val (.slice (encSubs xs))), (5, .val (.slice (encGrps g))), (6, .val (.int .i64 (q : Nat))), (7, e7), (8, .val (.int .i64 y.clients.length)), (9, e9), (10, e10), (11, e11), (12, e12), (13, e13), (14, e14), (15, e15), (16, e16), (17, e17)], ts := T, lc := X } S (.loop c14_13 (.blk 0 (.seq c14_99 .nil))) = some R := by
      intro e7 e9 e10 e11 e12 e13 e14 e15 e16 e17 T X h7 h9 h10 h11 h12 h13 h14 h15 h16 h17
      simp [-Int.natCast_add, h7, h9, h10, h11, h12, h13, h14, h15, h16, h17, hw, -Int.not_le, -Int.not_lt, -Nat.not_le, -Nat.not_lt, ty3, ty4, ty28, ty29, ty31, ty49, ty67, ty70, ty71, ty76, hm, hl, hr, x41, fi41_eq, p41, fi53_eq, fi54_eq, k56, x56, fi56_eq, p56, x64, fi64_eq, p64, E14, q14_35, q14_69, e14_90, e14_71, e14_42, e14_98, q14_137, e14_139, e14_147, e14_99, n14_25, n14_60, n14_79, n14_45, n14_12, n14_120, n14_103]
      exact IH _ _ _ _ _ _ _ _ _ _ _ _ _ h7 (tame_val _) h9 h10 h11 h12 h13 h14 h15 h16 h17
    have H42 : ∀ (e8 e9 e10 e11 e12 e13 e14 e15 e16 e17 : E) (T : List (Nat × E)) (X : List (Nat × List V)), e8.Tame → e9.Tame → e10.Tame → e11.Tame → e12.Tame → e13.Tame → e14.Tame → e15.Tame → e16.Tame → e17.Tame → evK gS fi14 c14_42 { ps := [(0, .val (.slice (intVs l1))), (2, .val (.bool false)), (3, .val (.ptr id 0)), (4, .val (.slice (encSubs xs))), (5, .val (.slice (encGrps g))), (6, .val (.int .i64 (q : Nat))), (7, .val (.int .i64 (q : Nat))), (8, e8), (9, e9), (10, e10), (11, e11), (12, e12), (13, e13), (14, e14), (15, e15), (16, e16), (17, e17)], ts := T, lc := X } S (.blk 1 (.seq c14_98 (.loop c14_13 (.blk 0 (.seq c14_99 .nil))))) = some R := by
      intro e8 e9 e10 e11 e12 e13 e14 e15 e16 e17 T X h8 h9 h10 h11 h12 h13 h14 h15 h16 h17
      have LL := fun e7 e9 e10 e11 e12 e13 e14 e15 e16 e17 T X h7 h9 h10 h11 h12 h13 h14 h15 h16 h17 => LD xs hx1 hx2 g hg1 hg2 l1 id S R q y hy (hft y (List.mem_of_getElem? hy)) (hit2 q y hy) hgm H98 y.clients.length 0 e7 e9 e10 e11 e12 e13 e14 e15 e16 e17 T X h7 h9 h10 h11 h12 h13 h14 h15 h16 h17 (Nat.zero_le _) rfl
      rw [show ((0 : Nat) : Int) = 0 from rfl] at LL
      simp [-Int.natCast_add, h8, h9, h10, h11, h12, h13, h14, h15, h16, h17, -Int.not_le, -Int.not_lt, -Nat.not_le, -Nat.not_lt, ty3, ty4, ty28, ty29, ty31, ty49, ty67, ty70, ty71, ty76, hm, hl, hr, x41, fi41_eq, p41, fi53_eq, fi54_eq, k56, x56, fi56_eq, p56, x64, fi64_eq, p64, E14, q14_35, q14_69, e14_90, e14_71, e14_42, e14_98, q14_137, e14_139, e14_147, e14_99, n14_25, n14_60, n14_79, n14_45, n14_12, n14_120, n14_103]
      exact LL _ _ _ _ _ _ _ _ _ _ _ _ (tame_val _) h9 h10 h11 h12 h13 h14 h15 h16 h17
    have LAA := fun e8 e9 e10 e11 e12 e13 e14 e15 e16 e17 T X h8 h9 h10 h11 h12 h13 h14 h15 h16 h17 => LA xs hx1 hx2 g hg1 hg2 l1 id S R hap q hlt2 H42 q 0 e8 e9 e10 e11 e12 e13 e14 e15 e16 e17 T X h8 h9 h10 h11 h12 h13 h14 h15 h16 h17 (Nat.zero_le _) rfl
    rw [show ((0 : Nat) : Int) = 0 from rfl] at LAA
    refine evK_loop c14_13 _ _ _ _ rfl ?_
    simp [-Int.natCast_add, h7, h8, h9, h10, h11, h12, h13, h14, h15, h16, h17, hlt, hlt2, -Int.not_le, -Int.not_lt, -Nat.not_le, -Nat.not_lt, ty3, ty4, ty28, ty29, ty31, ty49, ty67, ty70, ty71, ty76, hm, hl, hr, x41, fi41_eq, p41, fi53_eq, fi54_eq, k56, x56, fi56_eq, p56, x64, fi64_eq, p64, E14, q14_35, q14_69, e14_90, e14_71, e14_42, e14_98, q14_137, e14_139, e14_147, e14_99, n14_25, n14_60, n14_79, n14_45, n14_12, n14_120, n14_103]
    exact LAA _ _ _ _ _ _ _ _ _ _ _ _ h8 h9 h10 h11 h12 h13 h14 h15 h16 h17
set_option maxHeartbeats 8000000 in
theorem LG (xs : List Sub) (hx1 : ∀ s ∈ xs, POk s.filter) (hx2 : xs.length ≤ 18) (g : List Grp) (hg1 : ∀ x ∈ g, POk x.filter ∧ x.clients.length < 1000) (hg2 : g.length ≤ 18) (l1 : List Int) (id : Nat) (S : St) (R : Out × St) (hgm : ∀ c, (gmine g c).length ≤ 18) (hgr : ∀ c, ∀ m ∈ gmine g c, 0 ≤ m ∧ m < g.length) (hmt : ∀ x ∈ xs, (gmine g x.client).foldl (mStep g x.filter) false = true) 
    (H : ∀ (e6 e7 e8 e9 e10 e11 e12 e13 e15 e16 e17 : E) (T : List (Nat × E)) (X : List (Nat × List V)), e6.Tame → e7.Tame → e8.Tame → e9.Tame → e10.Tame → e11.Tame → e12.Tame → e13.Tame → e15.Tame → e16.Tame → e17.Tame → evK gS fi14 c14_147 { ps := [(0, .val (.slice (intVs l1))), (2, .val (.bool false)), (3, .val (.ptr id 0)), (4, .val (.slice (encSubs xs))), (5, .val (.slice (encGrps g))), (6, e6), (7, e7), (8, e8), (9, e9), (10, e10), (11, e11), (12, e12), (13, e13), (14, .val (.int .i64 xs.length)), (15, e15), (16, e16), (17, e17)], ts := T, lc := X } S .nil = some R) :
    ∀ (m q : Nat) (e6 e7 e8 e9 e10 e11 e12 e13 e15 e16 e17 : E) (T : List (Nat × E)) (X : List (Nat × List V)) (h6 : e6.Tame) (h7 : e7.Tame) (h8 : e8.Tame) (h9 : e9.Tame) (h10 : e10.Tame) (h11 : e11.Tame) (h12 : e12.Tame) (h13 : e13.Tame) (h15 : e15.Tame) (h16 : e16.Tame) (h17 : e17.Tame), q ≤ xs.length → xs.length - q = m → 
    evK gS fi14 c14_103 { ps := [(0, .val (.slice (intVs l1))), (2, .val (.bool false)), (3, .val (.ptr id 0)), (4, .val (.slice (encSubs xs))), (5, .val (.slice (encGrps g))), (6, e6), (7, e7), (8, e8), (9, e9), (10, e10), (11, e11), (12, e12), (13, e13), (14, .val (.int .i64 (q : Nat))), (15, e15), (16, e16), (17, e17)], ts := T, lc := X } S (.blk 10 (.seq c14_147 .nil)) = some R := by
  intro m
  have hm : fi14.marks = [] := rfl
  have hl : fi14.locals = [] := rfl
  have hr : fi14.results = [.tmp 2] := rfl
  induction m with
  | zero =>
    intro q e6 e7 e8 e9 e10 e11 e12 e13 e15 e16 e17 T X h6 h7 h8 h9 h10 h11 h12 h13 h15 h16 h17 hq hm2 
    obtain rfl : q = xs.length := by omega
    refine evK_loop c14_104 _ _ _ _ rfl ?_
    simp [-Int.natCast_add, h6, h7, h8, h9, h10, h11, h12, h13, h15, h16, h17, -Int.not_le, -Int.not_lt, -Nat.not_le, -Nat.not_lt, ty3, ty4, ty28, ty29, ty31, ty49, ty67, ty70, ty71, ty76, hm, hl, hr, x41, fi41_eq, p41, fi53_eq, fi54_eq, k56, x56, fi56_eq, p56, x64, fi64_eq, p64, E14, q14_35, q14_69, e14_90, e14_71, e14_42, e14_98, q14_137, e14_139, e14_99, n14_25, n14_60, n14_79, n14_45, n14_12, n14_120, n14_103]
    exact H _ _ _ _ _ _ _ _ _ _ _ _ _ h6 h7 h8 h9 h10 h11 h12 h13 h15 h16 h17
  | succ m ih =>
    intro q e6 e7 e8 e9 e10 e11 e12 e13 e15 e16 e17 T X h6 h7 h8 h9 h10 h11 h12 h13 h15 h16 h17 hq hm2 
    obtain ⟨x, hx⟩ : ∃ x, xs[q]? = some x := ⟨xs[q]'(by omega), List.getElem?_eq_getElem (by omega)⟩
    have hlt : (q : Int) < (xs.length : Int) := by omega
    obtain ⟨hlt2, hxe⟩ := List.getElem?_eq_some_iff.1 hx
    have hw : IntKind.wrap .i64 ((q : Int) + 1) = ((q + 1 : Nat) : Int) := by rw [wrap64 (by omega) (by omega)]; omega
    have IH := fun e6 e7 e8 e9 e10 e11 e12 e13 e15 e16 e17 T X h6 h7 h8 h9 h10 h11 h12 h13 h15 h16 h17 => ih (q + 1) e6 e7 e8 e9 e10 e11 e12 e13 e15 e16 e17 T X h6 h7 h8 h9 h10 h11 h12 h13 h15 h16 h17 (by omega) (by omega)
    have kk := fun fr st => k64 g hg1 (by omega) x.client fr st
    have f1 := hmt x (List.mem_of_getElem? hx)
    have H139 : ∀ (e6 e7 e8 e9 e10 e11 e12 e13 : E) (T : List (Nat × E)) (X : List (Nat × List V)), e6.Tame → e7.Tame → e8.Tame → e9.Tame → e10.Tame → e11.Tame → e12.Tame → e13.Tame → evK gS fi14 c14_139 { ps := [(0, .val (.slice (intVs l1))), (2, .val (.bool false)), (3, .val (.ptr id 0)), (4, .val (.slice (encSubs xs))), (5, .val (.slice (encGrps g))), (6, e6), (7, e7), (8, e8), (9, e9), (10, e10), (11, e11), (12, e12), (13, e13), (14, .val (.int .i64 (q : Nat))), (15, .val (.slice (intVs (gmine g x.client)))), (16, .val (.bool true)), (17, .val (.int .i64 (gmine g x.client).length))], ts := T, lc := X } S (.blk 11 (.seq c14_146 (.loop c14_104 (.blk 10 (.seq c14_147 .nil))))) = some R := by
      intro e6 e7 e8 e9 e10 e11 e12 e13 T X h6 h7 h8 h9 h10 h11 h12 h13
      simp [-Int.natCast_add, h6, h7, h8, h9, h10, h11, h12, h13, hw, -Int.not_le, -Int.not_lt, -Nat.not_le, -Nat.not_lt, ty3, ty4, ty28, ty29, ty31, ty49, ty67, ty70, ty71, ty76, hm, hl, hr, x41, fi41_eq, p41, fi53_eq, fi54_eq, k56, x56, fi56_eq, p56, x64, fi64_eq, p64, E14, q14_35, q14_69, e14_90, e14_71, e14_42, e14_98, q14_137, e14_139, e14_147, e14_99, n14_25, n14_60, n14_79, n14_45, n14_12, n14_120, n14_103]
      exact IH _ _ _ _ _ _ _ _ _ _ _ _ _ h6 h7 h8 h9 h10 h11 h12 h13 (tame_val _) (tame_val _) (tame_val _)
    have LFF := fun e6 e7 e8 e9 e10 e11 e12 e13 T X h6 h7 h8 h9 h10 h11 h12 h13 => LF xs hx1 hx2 g hg1 hg2 l1 id S R (gmine g x.client) (hgm _) (hgr _) q x hx true H139 (gmine g x.client).length 0 false e6 e7 e8 e9 e10 e11 e12 e13 T X h6 h7 h8 h9 h10 h11 h12 h13 (Nat.zero_le _) rfl (by rw [List.drop_zero]; exact f1.symm)
    rw [show ((0 : Nat) : Int) = 0 from rfl] at LFF
    refine evK_loop c14_104 _ _ _ _ rfl ?_
    simp [-Int.natCast_add, h6, h7, h8, h9, h10, h11, h12, h13, h15, h16, h17, hx, hxe, hlt, hlt2, kk, -Int.not_le, -Int.not_lt, -Nat.not_le, -Nat.not_lt, ty3, ty4, ty28, ty29, ty31, ty49, ty67, ty70, ty71, ty76, hm, hl, hr, x41, fi41_eq, p41, fi53_eq, fi54_eq, k56, x56, fi56_eq, p56, x64, fi64_eq, p64, E14, q14_35, q14_69, e14_90, e14_71, e14_42, e14_98, q14_137, e14_139, e14_147, e14_99, n14_25, n14_60, n14_79, n14_45, n14_12, n14_120, n14_103]
    exact LFF _ _ _ _ _ _ _ _ _ _ h6 h7 h8 h9 h10 h11 h12 h13
set_option maxHeartbeats 8000000 in
theorem c14 (l : List Int) (st : St) (hst : st.wp ≤ st.objs.length) : ∃ st', EvF gS 14 [.slice (intVs l)] st = some (.ret (.bool true) none, st') := by
  have hm : fi14.marks = [] := rfl
  have hl : fi14.locals = [] := rfl
  have hr : fi14.results = [.tmp 2] := rfl
  have hf := feedOk_new hst
  have n1 := new_feed st l
  have k1 := fun fr => k53 l 0 0 st.objs.length fr (nw st 0 []) hf (by omega) (by omega) [0, 0, 1] (by simp)
  rw [show intVs [0, 0, 1] = [.int .i64 0, .int .i64 0, .int .i64 1] from rfl] at k1
  have hall := subsV_all l 0 0 [0, 0, 1].length
  have hlen := (subsV_asks l 0 0 [0, 0, 1].length).2
  generalize subsV l 0 0 [0, 0, 1].length = P1 at *
  obtain ⟨xs, J, D⟩ := P1
  simp only at k1 hall hlen
  have k2 := fun fr st => k54 xs (fun s hs => psm_ffv (hall s hs).2.2) (by omega) fr st
  generalize hS0 : setF (dd (nw st 0 []) D) st.objs.length l (nA l 0 J) = S0 at k1
  clear hS0
  have hx1 : ∀ s ∈ xs, POk s.filter := fun s hs => (psm_ffv (hall s hs).2.2).ok
  have hgl := gof_len xs
  have hg1 : ∀ x ∈ gof xs, POk x.filter ∧ x.clients.length < 1000 := fun x hx => by
    obtain ⟨k, s, h1, h2, rfl⟩ := gof_mem.1 hx
    exact ⟨hx1 s (List.mem_of_getElem? h1), by have := cliOf_len xs s; show (cliOf xs s).length < 1000; omega⟩
  have hap : ∀ (i k : Nat) (a b : Grp), (gof xs)[i]? = some a → (gof xs)[k]? = some b → k < i → fsame a.filter b.filter = false := fun i k a b h1 h2 h3 => gof_apart xs h1 h2 h3
  have hgm : ∀ c, (gmine (gof xs) c).length ≤ 18 := fun c => by
    have := mineG_len c (gof xs) 0 []
    unfold gmine; simp at this; omega
  have hgr : ∀ c, ∀ m ∈ gmine (gof xs) c, 0 ≤ m ∧ m < (gof xs).length := fun c m hm => by
    obtain ⟨k, x, h1, _, h3⟩ := gmine_mem.1 hm
    have := (List.getElem?_eq_some_iff.1 h1).1
    omega
  have hft : ∀ y ∈ gof xs, ∀ c ∈ y.clients, xs.foldl (fStep c y.filter) false = true := fun y hy c hc => by
    obtain ⟨i, hi⟩ := List.mem_iff_getElem?.1 hy
    exact f_true hi hc
  have hit2 : ∀ (i : Nat) (y : Grp), (gof xs)[i]? = some y → ∀ c ∈ y.clients, (gmine (gof xs) c).foldl (iStep i) false = true := fun i y hy c hc => i_true hy hc
  have hmt : ∀ x ∈ xs, (gmine (gof xs) x.client).foldl (mStep (gof xs) x.filter) false = true := fun x hx => m_true hx
  have hnil := gof_nil xs
  have hlz : ((gof xs).length = 0) = (xs.length = 0) := by
    apply propext; rw [List.length_eq_zero_iff, List.length_eq_zero_iff]; exact hnil
  generalize gof xs = g at *
  refine ⟨S0, ?_⟩
  generalize hR : (Out.ret (V.bool true) none, S0) = R at *
  have H147 : ∀ (e6 e7 e8 e9 e10 e11 e12 e13 e15 e16 e17 : E) (T : List (Nat × E)) (X : List (Nat × List V)), e6.Tame → e7.Tame → e8.Tame → e9.Tame → e10.Tame → e11.Tame → e12.Tame → e13.Tame → e15.Tame → e16.Tame → e17.Tame → evK gS fi14 c14_147 { ps := [(0, .val (.slice (intVs l))), (2, .val (.bool false)), (3, .val (.ptr st.objs.length 0)), (4, .val (.slice (encSubs xs))), (5, .val (.slice (encGrps g))), (6, e6), (7, e7), (8, e8), (9, e9), (10, e10), (11, e11), (12, e12), (13, e13), (14, .val (.int .i64 xs.length)), (15, e15), (16, e16), (17, e17)], ts := T, lc := X } S0 .nil = some R := by
    intro e6 e7 e8 e9 e10 e11 e12 e13 e15 e16 e17 T X h6 h7 h8 h9 h10 h11 h12 h13 h15 h16 h17
    by_cases hxl : xs.length = 0
    · have hgl0 : g.length = 0 := by rw [hlz]; exact hxl
      have hxn : xs = [] := List.length_eq_zero_iff.1 hxl
      have hgn : g = [] := List.length_eq_zero_iff.1 hgl0
      subst hxn
      subst hgn
      simp [h6, h7, h8, h9, h10, h11, h12, h13, h15, h16, h17, k56, hR, -Int.not_le, -Int.not_lt, -Nat.not_le, -Nat.not_lt, ty3, ty4, ty28, ty29, ty31, ty49, ty67, ty70, ty71, ty76, hm, hl, hr, x41, fi41_eq, p41, fi53_eq, fi54_eq, k56, x56, fi56_eq, p56, x64, fi64_eq, p64, E14, q14_35, q14_69, e14_90, e14_71, e14_42, e14_98, q14_137, e14_139, e14_147, e14_99, n14_25, n14_60, n14_79, n14_45, n14_12, n14_120, n14_103]
    · have hgl0 : ¬ g.length = 0 := by rw [hlz]; exact hxl
      have hxn : ¬ xs = [] := fun h => hxl (List.length_eq_zero_iff.2 h)
      have hgn : ¬ g = [] := fun h => hgl0 (List.length_eq_zero_iff.2 h)
      simp [h6, h7, h8, h9, h10, h11, h12, h13, h15, h16, h17, k56, hxl, hgl0, hxn, hgn, hR, -Int.not_le, -Int.not_lt, -Nat.not_le, -Nat.not_lt, ty3, ty4, ty28, ty29, ty31, ty49, ty67, ty70, ty71, ty76, hm, hl, hr, x41, fi41_eq, p41, fi53_eq, fi54_eq, k56, x56, fi56_eq, p56, x64, fi64_eq, p64, E14, q14_35, q14_69, e14_90, e14_71, e14_42, e14_98, q14_137, e14_139, e14_147, e14_99, n14_25, n14_60, n14_79, n14_45, n14_12, n14_120, n14_103]
  have LLG := fun e6 e7 e8 e9 e10 e11 e12 e13 e15 e16 e17 T X h6 h7 h8 h9 h10 h11 h12 h13 h15 h16 h17 => LG xs hx1 hlen g hg1 (by omega) l st.objs.length S0 R hgm hgr hmt H147 xs.length 0 e6 e7 e8 e9 e10 e11 e12 e13 e15 e16 e17 T X h6 h7 h8 h9 h10 h11 h12 h13 h15 h16 h17 (Nat.zero_le _) rfl
  rw [show ((0 : Nat) : Int) = 0 from rfl] at LLG
  have H99 : ∀ (e7 e8 e9 e10 e11 e12 e13 e14 e15 e16 e17 : E) (T : List (Nat × E)) (X : List (Nat × List V)), e7.Tame → e8.Tame → e9.Tame → e10.Tame → e11.Tame → e12.Tame → e13.Tame → e14.Tame → e15.Tame → e16.Tame → e17.Tame → evK gS fi14 c14_99 { ps := [(0, .val (.slice (intVs l))), (2, .val (.bool false)), (3, .val (.ptr st.objs.length 0)), (4, .val (.slice (encSubs xs))), (5, .val (.slice (encGrps g))), (6, .val (.int .i64 g.length)), (7, e7), (8, e8), (9, e9), (10, e10), (11, e11), (12, e12), (13, e13), (14, e14), (15, e15), (16, e16), (17, e17)], ts := T, lc := X } S0 .nil = some R := by
    intro e7 e8 e9 e10 e11 e12 e13 e14 e15 e16 e17 T X h7 h8 h9 h10 h11 h12 h13 h14 h15 h16 h17
    simp [h7, h8, h9, h10, h11, h12, h13, h14, h15, h16, h17, -Int.not_le, -Int.not_lt, -Nat.not_le, -Nat.not_lt, ty3, ty4, ty28, ty29, ty31, ty49, ty67, ty70, ty71, ty76, hm, hl, hr, x41, fi41_eq, p41, fi53_eq, fi54_eq, k56, x56, fi56_eq, p56, x64, fi64_eq, p64, E14, q14_35, q14_69, e14_90, e14_71, e14_42, e14_98, q14_137, e14_139, e14_147, e14_99, n14_25, n14_60, n14_79, n14_45, n14_12, n14_120, n14_103]
    exact LLG _ _ _ _ _ _ _ _ _ _ _ _ _ (tame_val _) h7 h8 h9 h10 h11 h12 h13 h15 h16 h17
  have LLE := fun e7 e8 e9 e10 e11 e12 e13 e14 e15 e16 e17 T X h7 h8 h9 h10 h11 h12 h13 h14 h15 h16 h17 => LE xs hx1 hlen g hg1 (by omega) l st.objs.length S0 R hap hft hit2 hgm H99 g.length 0 e7 e8 e9 e10 e11 e12 e13 e14 e15 e16 e17 T X h7 h8 h9 h10 h11 h12 h13 h14 h15 h16 h17 (Nat.zero_le _) rfl
  rw [show ((0 : Nat) : Int) = 0 from rfl] at LLE
  clear LLG H99 H147
  refine EvF_start fi14_eq (fun x h => by cases h) m14 ?_
  rw [st14]
  simp [-St.obj, -St.set, n1, k1, k2, -Int.not_le, -Int.not_lt, -Nat.not_le, -Nat.not_lt, ty3, ty4, ty28, ty29, ty31, ty49, ty67, ty70, ty71, ty76, hm, hl, hr, x41, fi41_eq, p41, fi53_eq, fi54_eq, k56, x56, fi56_eq, p56, x64, fi64_eq, p64, E14, q14_35, q14_69, e14_90, e14_71, e14_42, e14_98, q14_137, e14_139, e14_147, e14_99, n14_25, n14_60, n14_79, n14_45, n14_12, n14_120, n14_103]
  exact LLE _ _ _ _ _ _ _ _ _ _ _ _ _ tame_any tame_any tame_any tame_any tame_any tame_any tame_any tame_any tame_any tame_any tame_any
theorem run14 (l : List Int) : ∃ st', EvF gS 14 [.slice (intVs l)] ⟨[], 0⟩ = some (.ret (.bool true) none, st') := c14 l ⟨[], 0⟩ (Nat.le_refl _)
end
end Go.Proofs.Ytclpbfkbpcjejaa
namespace Go.Ab
open Go Go.ChangeShapes Go.WideShapes
set_option linter.unusedVariables false
set_option linter.unusedSimpArgs false
set_option linter.unnecessarySimpa false
variable {H : Type} {enc : TypeId × Value → H} {P : Program} {w : World} {base b0 : Nat} {spare : Nat → Bool} {held : Bool} {r : Reach}
theorem arg_ints {t e : TypeId} {k : IntKind} {v : Value} {d : DataW H} {ps : List MemPlace} (ht : P.underlying t = some (.slice e)) (he : P.underlying e = some (.int k)) (hc : P.cellsOf e = 1)
    (hval : Value.okWide P w r b0 t v) (h : DataW.Trod enc P w base spare held t v d ps) : ∃ zs : List Int, Rep K0 w v (.slice (zs.map (V.int k))) ∧ ∀ n ∈ zs, (Lit.int k n).wf = true := by
  obtain ⟨a0, len, cap, rfl⟩ := okWide_slice ht hval
  obtain ⟨fuel, hf⟩ := h
  rcases open_ints ht he hc hf with ⟨hcs, _⟩ | ⟨a, len', cap', zs, hcs, _, hl, hm, hz, _, hcell, hwz⟩
  · simp [Value.cells] at hcs
    obtain ⟨rfl, rfl, rfl⟩ := hcs
    exact ⟨[], .slice0 _ _, by simp⟩
  · simp [Value.cells] at hcs
    obtain ⟨rfl, rfl, rfl⟩ := hcs
    have hzl : len ≤ zs.length := by rw [hz]; split <;> omega
    by_cases h0 : len = 0
    · subst h0; exact ⟨[], .slice0 _ _, by simp⟩
    · refine ⟨zs.take len, ?_, fun n hn => hwz n (List.mem_of_mem_take hn)⟩
      obtain ⟨b, off, spot⟩ := a
      have hspot : spot = none := by simpa [Addr.add] using World.cell?_spot (hcell 0 (by omega))
      subst hspot
      have hlen : ((zs.take len).map (V.int k)).length = len := by simp; omega
      have hfl : ((zs.take len).map (V.int k)).flatMap V.cells = (zs.take len).map (V.int k) := by
        generalize zs.take len = l
        induction l with
        | nil => rfl
        | cons x r ih => simp only [List.map_cons, List.flatMap_cons, ih]; rfl
      have key : Rep K0 w (.slice (some (at_ b off)) ((zs.take len).map (V.int k)).length cap) (.slice ((zs.take len).map (V.int k))) := by
        refine .slice (k := 1) (by rw [hlen]; exact hl) (fun x hx => ?_) ?_
        · obtain ⟨n, _, rfl⟩ := List.mem_map.1 hx; rfl
        · rw [hfl]
          refine RepAt.of_get fun j x hx => ?_
          rw [List.getElem?_map, List.getElem?_take] at hx
          split at hx
          · rename_i hj
            have hjz : j < zs.length := by omega
            rw [List.getElem?_eq_getElem hjz] at hx
            simp only [Option.map_some, Option.some.injEq] at hx
            subst hx
            refine ⟨.int k zs[j], ⟨?_, rfl⟩, .int _ _⟩
            have := hcell j hjz
            simp only [List.getD, List.getElem?_eq_getElem hjz, Option.getD_some] at this
            rwa [show ({ block := b, off := off } : Addr) = at_ b off from rfl, addr_add] at this
          · cases hx
      rw [hlen] at key
      exact key
end Go.Ab
namespace Go.Ab
open Go Go.ChangeShapes Go.WideShapes
set_option linter.unusedVariables false
set_option linter.unusedSimpArgs false
set_option linter.unnecessarySimpa false
variable {H : Type} {enc : TypeId × Value → H} {P : Program} {w : World} {base b0 : Nat} {spare : Nat → Bool} {held : Bool} {r : Reach}
/-- Plain types. -/
inductive Ty where
  | bool | int (k : IntKind) | float (k : FloatKind) | str
  | sl (e : Ty)
  | st (fs : List Ty)
mutual
def Ty.size : Ty → Nat
  | .st fs => Ty.sizes fs
  | _ => 1
def Ty.sizes : List Ty → Nat
  | [] => 0
  | f :: r => f.size + Ty.sizes r
end
end Go.Ab
namespace Go.Proofs.Ytclpbfkbpcjejaa
open Go Go.Ab Go.ChangeShapes Go.WideShapes Go.ChangeAt Go.RowKit
set_option linter.unusedVariables false
set_option linter.unusedSimpArgs false
set_option linter.unnecessarySimpa false
set_option maxRecDepth 100000 in
theorem groupApart_lifted (os : Os) (started : os.Started) (H : Type) (enc : TypeId × Value → H) :
    ReturnsInHanded {} Try.checked os 14 .any (Rows.groupApartSpec.pre6 enc Try.prog Try.f14 Rows.groupApartRow.domain false) (Rows.groupApartSpec.post enc Try.prog Try.f14 false true false false) := by
  refine returnsInHanded_of_change_sized (C := Try.checked) Try.own started (by kernel_rfl) Try.func14
    (ChangeSpec.witness6 (enc := enc) (C := Try.checked) false ⟨#[], #[.slice none 0 0], []⟩ 8 (by kernel_rfl) (by kernel_rfl) (by kernel_rfl) (by kernel_rfl)) ?_
  intro W base args ds gs before hval0 hW _ hsz0 _
  have hW' := hW
  obtain ⟨p, q, hA0, hV, rfl, _, _⟩ := hW
  have hA : DataW.TrodAll enc Try.prog W 0 (fun _ => true) true Try.f14.params.toList args.toList ds p := hA0
  have hpar : Try.f14.params = #[28] := by kernel_rfl
  have hval : ∀ (j : Nat) t v, Try.f14.params[j]? = some t → args[j]? = some v → Value.okWide Try.prog W .any base t v := hval0
  rw [hpar] at hA hval
  obtain ⟨l⟩ := args
  obtain ⟨v0, l, d0, ds, p0, r0, rfl, rfl, rfl, h0, hA⟩ := trodAll_cons hA
  obtain ⟨rfl, rfl, rfl⟩ := trodAll_nil hA
  obtain ⟨rfl, rfl⟩ := trodVars_none hV
  obtain ⟨x0, a0, _⟩ := arg_ints Try.underlying28 Try.underlying3 (by kernel_rfl) (hval 0 28 v0 rfl rfl) h0
  have hlt : ∀ y ∈ (p0 ++ []) ++ [], y.block < W.heap.size := fun y hy => hW'.lt y hy
  have hr : Reps K0 W [v0] [.slice (intVs x0)] := .cons a0 .nil
  obtain ⟨st', hev⟩ := run14 x0
  obtain ⟨nn, hrun⟩ := EvF_fuel hev
  refine (law_calls (n := nn) (f := 14) (xs := [.slice (intVs x0)]) (gS_calls nn) (by rw [hrun]) (W := W) (args := #[v0]) hr).mono ?_
  rintro e W' ⟨rfl, hn⟩
  refine ⟨_, rfl, _, _, _, [], p0 ++ [], [], hW', ?_, ?_, rfl, hn.frame _, fun h => by cases h⟩
  · exact trodAll_mk1 (shut_bool Try.underlying4 true)
  · exact ⟨p0, _, Below.trod Try.laidOut (by kernel_rfl) (of_decide_eq_true (by kernel_rfl)) h0 hn (fun y hy => hlt y (by simp [hy])), rfl, rfl⟩
theorem groupApart_holds : Rows.GroupApartSaid :=
  OpenClaim.holds_of_wide 14 Try.f14 rfl rfl rfl rfl rfl rfl rfl ⟨rfl, rfl, rfl, rfl, rfl⟩ rfl rfl rfl rfl rfl (by kernel_rfl) Try.func14 (by kernel_rfl)
    (of_decide_eq_true (by kernel_rfl)) (by unfold Func.isWrapper; first | (rw [if_pos (by decide +kernel)]; kernel_rfl) | (rw [if_neg (by decide +kernel)]; exact ⟨rfl, rfl⟩))
    (fun os started H enc _ => groupApart_lifted os started H enc)
#print axioms groupApart_holds
end Go.Proofs.Ytclpbfkbpcjejaa
