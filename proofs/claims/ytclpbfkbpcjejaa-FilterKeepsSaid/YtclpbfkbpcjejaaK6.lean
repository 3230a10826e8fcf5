/- Whatever attributes, one of some filters takes them just if one of the reduced row does; in the row no one covers another one. Part 6. -/
import Derived.Test.YtclpbfkbpcjejaaK5
namespace Go.Ab
open Go
set_option linter.unusedVariables false
set_option linter.unusedSimpArgs false
set_option linter.unnecessarySimpa false
theorem dd_nw_set (st : St) (m k : Nat) (cs cs' : List V) (h : st.wp ≤ st.objs.length) : St.set (dd (nw st m cs) k) (st.objs.length + m) cs' = some (dd (nw st m cs') k) := by
  unfold St.set
  rw [if_pos (by rw [dd_wp, gr_wp]; omega)]
  unfold dd nw
  simp only [Option.some.injEq, St.mk.injEq, and_true]
  rw [List.append_assoc, List.set_append_right _ _ (by omega), Nat.add_sub_cancel_left, List.append_assoc, List.set_append_right _ _ (by simp), List.length_replicate, Nat.sub_self]
  simp only [List.singleton_append, List.set_cons_zero, List.append_assoc]
theorem set_mid' {st : St} {id : Nat} (h : FeedOk st id) (m k : Nat) (cs cs' : List V) (l : List Int) (a : Nat) : St.set (setF (dd (nw st m cs) k) id l a) (st.objs.length + m) cs' = some (setF (dd (nw st m cs') k) id l a) := by
  have h1 := h.1
  have h2 := h.2
  have hk := dd_nw_set st m k cs cs' (by omega)
  unfold St.set at hk ⊢
  rw [if_pos (by rw [dd_wp, gr_wp]; omega)] at hk
  rw [if_pos (by rw [setF_wp, dd_wp, gr_wp]; omega)]
  have hk2 := Option.some.inj hk
  congr 1
  rw [← hk2]
  unfold setF
  simp only [St.mk.injEq, and_true]
  rw [List.set_comm _ _ (by omega)]
/-- A copy of a filter, one of its tests another one perhaps; where the feed stands then; how many objects were given up. -/
def turnF (l : List Int) (a : Nat) (y : List Pred) (j : Nat) : List Pred × Nat × Nat :=
  if y = [] then (y, j, 0) else
  if fd l a j 2 = 0 then
    (y.take (fd l a (j + 1) y.length).toNat ++ [(predV l a (j + 2) [97]).1] ++ y.drop ((fd l a (j + 1) y.length).toNat + 1), j + 2 + (predV l a (j + 2) [97]).2, y.length + (predV l a (j + 2) [97]).1.set.length)
  else (y, j + 1, y.length)
def halfF (l : List Int) (a : Nat) (L : List (List Pred)) (f : List Pred) (j : Nat) : List Pred × Nat × Nat :=
  if L = [] then (f, j, 0) else
  if fd l a j 4 = 0 then turnF l a (L.getD (fd l a (j + 1) L.length).toNat []) (j + 2) else (f, j + 1, 0)
/-- One more filter. -/
def stepF (raw : List Pred) (l : List Int) (a : Nat) (L : List (List Pred)) (j : Nat) : List Pred × Nat × Nat :=
  (if fd l a (halfF l a L (filterV l a j).1 (filterV l a j).2.1).2.1 12 = 0 then raw.take 5 else (halfF l a L (filterV l a j).1 (filterV l a j).2.1).1,
   (halfF l a L (filterV l a j).1 (filterV l a j).2.1).2.1 + 1, (filterV l a j).2.2 + (halfF l a L (filterV l a j).1 (filterV l a j).2.1).2.2)
def filtersG (raw : List Pred) (l : List Int) (a : Nat) : Nat → List (List Pred) → Nat → Nat → List (List Pred) × Nat × Nat
  | 0, L, j, d => (L, j, d)
  | n + 1, L, j, d => filtersG raw l a n (L ++ [(stepF raw l a L j).1]) (stepF raw l a L j).2.1 (d + (stepF raw l a L j).2.2)
def filtersV (raw : List Pred) (l : List Int) (a j : Nat) (n : Int) : List (List Pred) × Nat × Nat := filtersG raw l a (fd l a j (n + 1)).toNat [] (j + 1) 0
theorem turnF_asks (l : List Int) (a : Nat) (y : List Pred) (j : Nat) : (turnF l a y j).2.1 ≤ j + 12 := by
  unfold turnF
  have := pred_asks l a (j + 2) [97]
  split
  · simp
  · split
    · simp; omega
    · simp
theorem halfF_asks (l : List Int) (a : Nat) (L : List (List Pred)) (f : List Pred) (j : Nat) : (halfF l a L f j).2.1 ≤ j + 14 := by
  unfold halfF
  split
  · simp
  · split
    · have := turnF_asks l a (L.getD (fd l a (j + 1) L.length).toNat []) (j + 2)
      omega
    · simp
theorem stepF_asks (raw : List Pred) (l : List Int) (a : Nat) (L : List (List Pred)) (j : Nat) : (stepF raw l a L j).2.1 ≤ j + 49 := by
  unfold stepF
  have h1 := halfF_asks l a L (filterV l a j).1 (filterV l a j).2.1
  have h2 := filterV_asks l a j
  simp only
  omega
theorem filtersG_len (raw : List Pred) (l : List Int) (a : Nat) : ∀ (n : Nat) (L : List (List Pred)) (j d : Nat), (filtersG raw l a n L j d).1.length = L.length + n
  | 0, _, _, _ => by simp [filtersG]
  | n + 1, L, j, d => by
    simp only [filtersG]
    rw [filtersG_len raw l a n]; simp; omega
theorem filtersV_len (raw : List Pred) (l : List Int) (a j : Nat) {n : Int} (h : 0 ≤ n) : (filtersV raw l a j n).1.length ≤ n.toNat := by
  unfold filtersV
  rw [filtersG_len]
  have h2 := fd_bound l a j (n := n + 1) (by omega)
  simp; omega
/-- What holds of each test of each filter. -/
theorem turnF_all {P : Pred → Prop} (l : List Int) (a : Nat) (hp : ∀ j, P (predV l a j [97]).1) (y : List Pred) (hy : ∀ p ∈ y, P p) (j : Nat) : (∀ p ∈ (turnF l a y j).1, P p) ∧ (turnF l a y j).1.length ≤ y.length := by
  unfold turnF
  split
  · exact ⟨hy, Nat.le_refl _⟩
  · rename_i hne
    split
    · have hpos : 0 < y.length := List.length_pos_iff.2 hne
      have hb := fd_bound l a (j + 1) (n := (y.length : Int)) (by omega)
      refine ⟨fun p h => ?_, ?_⟩
      · rcases List.mem_append.1 h with h | h
        · rcases List.mem_append.1 h with h | h
          · exact hy p (List.mem_of_mem_take h)
          · simp at h; subst h; exact hp _
        · exact hy p (List.mem_of_mem_drop h)
      · simp; omega
    · exact ⟨hy, Nat.le_refl _⟩
theorem stepF_all {P : Pred → Prop} {k : Nat} (raw : List Pred) (l : List Int) (a : Nat) (hr : ∀ p ∈ raw, P p) (hp : ∀ j, P (predV l a j [97]).1) (hf : ∀ j, (∀ p ∈ (filterV l a j).1, P p)) (hk : 5 ≤ k) (L : List (List Pred)) (hL : ∀ f ∈ L, (∀ p ∈ f, P p) ∧ f.length ≤ k) (j : Nat) :
    (∀ p ∈ (stepF raw l a L j).1, P p) ∧ (stepF raw l a L j).1.length ≤ k := by
  have hf1 := (filterV_ffv l a j).2
  have hff := hf j
  unfold stepF
  simp only
  split
  · refine ⟨fun p h => hr p (List.mem_of_mem_take h), ?_⟩
    simp; omega
  · generalize filterV l a j = F at *
    obtain ⟨f, J, D⟩ := F
    simp only at *
    unfold halfF
    split
    · exact ⟨hff, by simp only; omega⟩
    · rename_i hne
      split
      · have hpos : 0 < L.length := List.length_pos_iff.2 hne
        have hb := fd_bound l a (J + 1) (n := (L.length : Int)) (by omega)
        have hi : (fd l a (J + 1) L.length).toNat < L.length := by omega
        rw [List.getD_eq_getElem?_getD, List.getElem?_eq_getElem hi]
        simp only [Option.getD_some]
        obtain ⟨h1, h2⟩ := hL _ (List.getElem_mem hi)
        obtain ⟨h3, h4⟩ := turnF_all l a hp _ h1 (J + 2)
        exact ⟨h3, by omega⟩
      · exact ⟨hff, by simp only; omega⟩
theorem filtersG_all {P : Pred → Prop} {k : Nat} (raw : List Pred) (l : List Int) (a : Nat) (hr : ∀ p ∈ raw, P p) (hp : ∀ j, P (predV l a j [97]).1) (hf : ∀ j, (∀ p ∈ (filterV l a j).1, P p)) (hk : 5 ≤ k) : ∀ (n : Nat) (L : List (List Pred)) (j d : Nat), (∀ f ∈ L, (∀ p ∈ f, P p) ∧ f.length ≤ k) →
    ∀ f ∈ (filtersG raw l a n L j d).1, (∀ p ∈ f, P p) ∧ f.length ≤ k
  | 0, L, _, _, h => h
  | n + 1, L, j, d, h => by
    simp only [filtersG]
    refine filtersG_all raw l a hr hp hf hk n _ _ _ fun f hf' => ?_
    rcases List.mem_append.1 hf' with h' | h'
    · exact h f h'
    · simp at h'; subst h'
      exact stepF_all raw l a hr hp hf hk L h j
theorem filtersV_all {P : Pred → Prop} (raw : List Pred) (l : List Int) (a : Nat) (hr : ∀ p ∈ raw, P p) (hp : ∀ j, P (predV l a j [97]).1) (hf : ∀ j, (∀ p ∈ (filterV l a j).1, P p)) (j : Nat) (n : Int) :
    ∀ f ∈ (filtersV raw l a j n).1, (∀ p ∈ f, P p) ∧ f.length ≤ 5 := filtersG_all raw l a hr hp hf (Nat.le_refl _) _ _ _ _ (by simp)
end Go.Ab
namespace Go.Proofs.Ytclpbfkbpcjejaa
open Go Go.Ab
set_option linter.unusedVariables false
set_option linter.unusedSimpArgs false
set_option linter.unnecessarySimpa false
set_option maxRecDepth 20000
noncomputable section
variable (fr : Fr) (st : St) (k : Kt)
def fi51 : FI := { body := codeOf Try.f51, ntmps := 25, results := [.tmp 2], pers := [0, 2, 3, 4, 5], locals := [5], pure := false, marks := [23] }
theorem fi51_eq : gS.fn 51 = some fi51 := by kernel_rfl
theorem st51 (a0 : V) : startFr fi51 [a0] = { ps := [(0, .val a0), (2, .any), (3, .any), (4, .any), (5, .any)], ts := [], lc := [] } := rfl
def b51 : Code := mini (codeOf Try.f51)
def c51_12 : Code := .cond (.tmp 9) .skip (.exit 0)
def c51_10 : Code := .seq (codeN b51 267) c51_12
def c51_21 : Code := codeN b51 3659
def c51_19 : Code := .seq (codeN b51 2635) c51_21
def c51_17 : Code := .seq (codeN b51 1099) c51_19
def c51_22 : Code := codeN b51 459
def c51_15 : Code := .seq (.block 1 c51_17) c51_22
def c51_9 : Code := .seq c51_10 c51_15
def c51_8 : Code := .loop c51_9
def c51_7 : Code := .block 0 c51_8
def c51_5 : Code := .seq (codeN b51 19) c51_7
def c51_23 : Code := .seq (codeN b51 23) .ret
def c51_4 : Code := .seq c51_5 c51_23
def c51_2 : Code := .seq (codeN b51 5) c51_4
def c51_0 : Code := .seq (codeN b51 2) c51_2
theorem E51 : evK gS fi51 c51_12 fr st k = condK gS fi51 (fr.op (.tmp 9)).bool? .skip (.exit 0) fr st k ∧
 (evK gS fi51 c51_10 fr st k = opsR gS fi51 [mv 6 4 3,
 mv 7 0 49,
 len1 8 7 49 3,
 bop 9 .lss 3 6 8 3 4] fr st (.seq c51_12 k)) ∧
 (evK gS fi51 c51_21 fr st k = opsR gS fi51 [mv 20 3 49,
 ld 21 27 5 27,
 op1 22 (.buildSlice 49 1 #[(0, (.tmp 21))]) 49,
 op1 23 (.call { callee := (.builtin .append), args := #[(.tmp 20), (.tmp 22)], argTypes := #[49, 49] }) 49,
 asn 3 23 49] fr st k) ∧
 (evK gS fi51 c51_19 fr st k = opsR gS fi51 [op1 16 (.fieldAddr 27 (.tmp 5) 4) 0,
 ld 17 25 16 25,
 op1 18 (.call { callee := (.builtin .append), args := #[(.const (.slice none 0 0)), (.tmp 17)], argTypes := #[25, 25] }) 25,
 op1 19 (.fieldAddr 27 (.tmp 5) 4) 0,
 sto 25 19 18] fr st (.seq c51_21 k)) ∧
 (evK gS fi51 c51_17 fr st k = opsR gS fi51 [mv 12 0 49,
 mv 13 4 3,
 ixa 14 49 12 13 0,
 ld 15 27 14 27,
 op1 5 (.alloc 27) 0,
 sto 27 5 15] fr st (.seq c51_19 k)) ∧
 (evK gS fi51 c51_22 fr st k = opsR gS fi51 [mv 10 4 3,
 op1 11 (.binOp .add 3 (.tmp 10) (.const (.int .i64 1)) 3) 3,
 asn 4 11 3] fr st k) ∧
 evK gS fi51 c51_15 fr st k = evK gS fi51 c51_17 fr st (.blk 1 (.seq c51_22 k)) ∧
 evK gS fi51 c51_9 fr st k = evK gS fi51 c51_10 fr st (.seq c51_15 k) ∧
 evK gS fi51 c51_7 fr st k = evK gS fi51 c51_8 fr st (.blk 0 k) ∧
 evK gS fi51 c51_5 fr st k = opsR gS fi51 [op1 4 (.assign (.const (.int .i64 0))) 3] fr st (.seq c51_7 k) ∧
 (evK gS fi51 c51_23 fr st k = opsR gS fi51 [mv 24 3 49,
 asn 2 24 49] fr st (.seq .ret k)) ∧
 evK gS fi51 c51_4 fr st k = evK gS fi51 c51_5 fr st (.seq c51_23 k) ∧
 evK gS fi51 c51_2 fr st k = opsR gS fi51 [op1 3 (.assign (.const (.slice none 0 0))) 49] fr st (.seq c51_4 k) ∧
 evK gS fi51 c51_0 fr st k = opsR gS fi51 [op1 2 (.assign (.const (.slice none 0 0))) 49] fr st (.seq c51_2 k) := ⟨rfl, evK_rs 3 rfl (by kernel_rfl), evK_r 7 (by kernel_rfl), evK_rs 6 rfl (by kernel_rfl), evK_rs 5 rfl (by kernel_rfl), evK_r 4 (by kernel_rfl), rfl, rfl, rfl, evK_rs 2 rfl (by kernel_rfl), evK_rs 8 rfl (by kernel_rfl), rfl, evK_rs 1 rfl (by kernel_rfl), evK_rs 0 rfl (by kernel_rfl)⟩
theorem m51 : mini fi51.body = c51_0 := by kernel_rfl
theorem n51_8 (fr : Fr) (st : St) (k : Kt) : nextK gS fi51 (.loop c51_9 k) .normal fr st = evK gS fi51 c51_8 fr st k := rfl
/-- How a copy is handed out, and the state then. -/
def copV (L : Nat) (f : List Pred) : V := if f = [] then .slice [] else .sref false 13 (L + (f.length - 1)) 0 f.length
def copK (f : List Pred) : Option Nat := if f = [] then some 0 else none
def copS (st : St) (f : List Pred) : St := if f = [] then st else nw st (f.length - 1) (f.flatMap Pred.cells)
set_option maxHeartbeats 8000000 in
theorem L51 (f : List Pred) (h_f : PSm f) (st : St) (hst : st.wp ≤ st.objs.length) : ∀ (n i : Nat) (e5 : E) (T : List (Nat × E)) (X : List (Nat × List V)) (ht5 : e5.Tame), i < f.length → f.length - i = n + 1 →
    evK gS fi51 c51_8 { ps := [(0, .val (.slice (encPreds f))), (2, .own 0 []), (3, .val (.sref false 13 (st.objs.length + i) 0 (i + 1))), (4, .val (.int .i64 ((i + 1 : Nat) : Int))), (5, e5)], ts := T, lc := X } (nw st i ((f.take (i + 1)).flatMap Pred.cells)) (.blk 0 (.seq c51_23 .nil)) = some (.ret (.sref false 13 (st.objs.length + (f.length - 1)) 0 f.length) none, nw st (f.length - 1) (f.flatMap Pred.cells)) := by
  intro n
  have hm : fi51.marks = [23] := rfl
  have hl : fi51.locals = [5] := rfl
  have hr : fi51.results = [.tmp 2] := rfl
  have hfl := h_f.1
  induction n with
  | zero =>
    intro i e5 T X ht5 hi hn
    obtain hie : i + 1 = f.length := by omega
    have hie2 : f.length - 1 = i := by omega
    refine evK_loop c51_9 _ _ _ _ rfl ?_
    rw [hie2, ← hie, List.take_of_length_le (by omega)]
    have hlt : ¬ (((i + 1 : Nat) : Int) < (f.length : Int)) := by omega
    simp [-Int.natCast_add, -St.obj, -St.set, hlt, ht5, -Int.not_le, -Int.not_lt, -Nat.not_le, -Nat.not_lt, ty3, ty4, ty25, ty27, ty49, hm, hl, hr, E51, n51_8]
  | succ n ih =>
    intro i e5 T X ht5 hi hn
    obtain ⟨x, hx⟩ : ∃ x, f[i + 1]? = some x := ⟨f[i + 1]'(by omega), List.getElem?_eq_getElem (by omega)⟩
    have hlt : ((i + 1 : Nat) : Int) < (f.length : Int) := by omega
    have hlt2 : i + 1 < f.length := by omega
    have hxe : f[i + 1]'hlt2 = x := by rw [List.getElem?_eq_getElem hlt2] at hx; exact Option.some.inj hx
    have hw : IntKind.wrap .i64 (((i + 1 : Nat) : Int) + 1) = ((i + 1 + 1 : Nat) : Int) := by rw [wrap64 (by omega) (by omega)]; omega
    have hxs := (h_f.2 x (List.mem_of_getElem? hx)).2
    have hxs2 : x.set.length ≤ 140737488355328 := by omega
    have htk : f.take (i + 1 + 1) = f.take (i + 1) ++ [x] := by rw [List.take_succ_eq_append_getElem hlt2, hxe]
    have IH := fun e5 T X ht5 => ih (i + 1) e5 T X ht5 (by omega) (by omega)
    have hfm : (f.take (i + 1) ++ [x]).flatMap Pred.cells = (f.take (i + 1)).flatMap Pred.cells ++ [.str x.name, .int .i64 x.test, .int .i64 x.v.kind, .int .i64 x.v.n, .float .f64 x.v.x, .str x.v.s, .bool x.v.b, .int .i64 x.w.kind, .int .i64 x.w.n, .float .f64 x.w.x, .str x.w.s, .bool x.w.b, .slice (encVals x.set)] := by
      rw [List.flatMap_append, List.flatMap_cons, List.flatMap_nil, List.append_nil]; rfl
    rw [htk, hfm] at IH
    have hsv := sizes_vals x.set
    have hln : (f.take (i + 1)).length = i + 1 := by simp; omega
    have hcl := row_len Pred.cells 13 pcells_len (f.take (i + 1))
    rw [hln] at hcl
    have hstp := row_strip Pred.cells Pred.cells pcells_strip (f.take (i + 1))
    have hon := row_one Pred.cells pcells_one (f.take (i + 1))
    have b1 : (i + 1 + 1) * 144 ≤ 140737488355328 := by omega
    have b2 : i + 1 + 1 ≤ 140737488355328 := by omega
    generalize (f.take (i + 1)).flatMap Pred.cells = C at *
    have ho := nw_obj st i C
    have hk := nw_kill hst i C
    have hnr := fun fr k len cs => newRef_dd' st fr (i + 1) k len cs
    refine evK_loop c51_9 _ _ _ _ rfl ?_
    simp [-Int.natCast_add, -St.obj, -St.set, ht5, hx, hxe, hlt, hlt2, hw, hxs, hxs2, hsv, hcl, hstp, hon, ho, hk, hnr, b1, b2, IH, markStep, markAppend, elemsAt, -Int.not_le, -Int.not_lt, -Nat.not_le, -Nat.not_lt, ty3, ty4, ty25, ty27, ty49, hm, hl, hr, E51, n51_8]
set_option maxHeartbeats 8000000 in
theorem c51 (f : List Pred) (h_f : PSm f) (st : St) (hst : st.wp ≤ st.objs.length) : EvF gS 51 [.slice (encPreds f)] st = some (.ret (copV st.objs.length f) (copK f), copS st f) := by
  refine EvF_start fi51_eq (fun x h => by cases h) m51 ?_
  rw [st51]
  have hm : fi51.marks = [23] := rfl
  have hl : fi51.locals = [5] := rfl
  have hr : fi51.results = [.tmp 2] := rfl
  have hfl := h_f.1
  unfold copV copK copS
  cases f with
  | nil =>
    simp [show encPreds [] = [] from rfl, -Int.not_le, -Int.not_lt, -Nat.not_le, -Nat.not_lt, ty3, ty4, ty25, ty27, ty49, hm, hl, hr, E51, n51_8]
    refine evK_loop c51_9 _ _ _ _ rfl ?_
    simp [show encPreds [] = [] from rfl, -Int.not_le, -Int.not_lt, -Nat.not_le, -Nat.not_lt, ty3, ty4, ty25, ty27, ty49, hm, hl, hr, E51, n51_8]
  | cons x r =>
    rw [if_neg (by simp), if_neg (by simp), if_neg (by simp)]
    have L0 := fun e5 T X ht5 => L51 (x :: r) h_f st hst r.length 0 e5 T X ht5 (by simp) (by simp)
    have hxs := (h_f.2 x (by simp)).2
    have hxs2 : x.set.length ≤ 140737488355328 := by omega
    have hsv := sizes_vals x.set
    have hc1 : ((x :: r).take (0 + 1)).flatMap Pred.cells = [.str x.name, .int .i64 x.test, .int .i64 x.v.kind, .int .i64 x.v.n, .float .f64 x.v.x, .str x.v.s, .bool x.v.b, .int .i64 x.w.kind, .int .i64 x.w.n, .float .f64 x.w.x, .str x.w.s, .bool x.w.b, .slice (encVals x.set)] := by simp [Pred.cells]
    rw [hc1] at L0
    generalize hR : (Out.ret (V.sref false 13 (st.objs.length + ((x :: r).length - 1)) 0 (x :: r).length) none, nw st ((x :: r).length - 1) ((x :: r).flatMap Pred.cells)) = R at L0 ⊢
    clear hR
    have hnr := fun fr k len cs => newRef_0 st fr k len cs
    have hx : (x :: r)[0]? = some x := rfl
    generalize x :: r = f at *
    obtain ⟨hlt2, hxe⟩ := List.getElem?_eq_some_iff.1 hx
    have hlt : (0 : Int) < (f.length : Int) := by omega
    have hw : IntKind.wrap .i64 (0 + 1) = 1 := by kernel_rfl
    simp [-St.obj, -St.set, -Int.not_le, -Int.not_lt, -Nat.not_le, -Nat.not_lt, ty3, ty4, ty25, ty27, ty49, hm, hl, hr, E51, n51_8]
    refine evK_loop c51_9 _ _ _ _ rfl ?_
    simp [-Int.natCast_add, -St.obj, -St.set, hx, hxe, hlt, hlt2, hw, hxs, hxs2, hsv, hnr, markStep, markAppend, elemsAt, w64_1, -Int.not_le, -Int.not_lt, -Nat.not_le, -Nat.not_lt, ty3, ty4, ty25, ty27, ty49, hm, hl, hr, E51, n51_8]
    refine L0 _ _ _ ?_
    simp
theorem k51 (f : List Pred) (h_f : PSm f) (fr : Fr) (st : St) (hst : st.wp ≤ st.objs.length) : callStep gS (EvF gS) 51 [.slice (encPreds f)] fr st = some (.ok (retE (copK f) (copV st.objs.length f)) (fr.map E.noMem) (copS st f)) := by
  unfold callStep
  simp only [show gS.ext 51 = none from rfl, fi51_eq, show fi51.pure = false from rfl, Bool.false_eq_true, if_false, c51 f h_f st hst]
def fi34 : FI := { body := codeOf Try.f34, ntmps := 67, results := [.tmp 6], pers := [0, 1, 2, 6, 7, 8, 9, 10], locals := [], pure := false, marks := [3000009] }
theorem fi34_eq : gS.fn 34 = some fi34 := by kernel_rfl
theorem st34 (a0 a1 a2 : V) : startFr fi34 [a0, a1, a2] = { ps := [(0, .val a0), (1, .val a1), (2, .val a2), (6, .any), (7, .any), (8, .any), (9, .any), (10, .any)], ts := [], lc := [] } := rfl
def b34 : Code := mini (codeOf Try.f34)
def c34_12 : Code := .cond (.tmp 16) .skip (.exit 0)
def c34_10 : Code := .seq (codeN b34 267) c34_12
def c34_29 : Code := codeN b34 174667
def c34_28 : Code := .cond (.tmp 44) c34_29 .skip
def c34_26 : Code := .seq (codeN b34 76363) c34_28
def c34_31 : Code := codeN b34 59979
def c34_25 : Code := .seq c34_26 c34_31
def c34_23 : Code := .seq (codeN b34 19019) c34_25
theorem e34_23 : evK gS fi34 c34_23 fr st k = opsR gS fi34 [mv 29 7 51,
 mv 30 0 29,
 mv 31 7 51,
 len1 32 31 51 3,
 cal 33 16 [(.tmp 30), (.tmp 32)] [29, 3] 3,
 ixa 34 51 29 33 0,
 ld 35 49 34 49,
 cal 36 51 [(.tmp 35)] [49] 49,
 asn 10 36 49] fr st (.seq c34_25 k) := evK_rs 7 rfl (by kernel_rfl)
def c34_22 : Code := .cond (.tmp 28) c34_23 .skip
def c34_20 : Code := .seq (codeN b34 4683) c34_22
def c34_37 : Code := codeN b34 22091
def c34_36 : Code := .cond (.tmp 56) c34_37 .skip
def c34_34 : Code := .seq (codeN b34 9803) c34_36
def c34_39 : Code := codeN b34 7755
def c34_33 : Code := .seq c34_34 c34_39
theorem e34_33 : evK gS fi34 c34_33 fr st k = evK gS fi34 c34_34 fr st (.seq c34_39 k) := rfl
def c34_19 : Code := .seq c34_20 c34_33
theorem e34_19 : evK gS fi34 c34_19 fr st k = evK gS fi34 c34_20 fr st (.seq c34_33 k) := rfl
def c34_17 : Code := .seq (codeN b34 1099) c34_19
def c34_40 : Code := codeN b34 459
def c34_15 : Code := .seq (.block 1 c34_17) c34_40
def c34_9 : Code := .seq c34_10 c34_15
def c34_8 : Code := .loop c34_9
def c34_7 : Code := .block 0 c34_8
def c34_5 : Code := .seq (codeN b34 19) c34_7
def c34_41 : Code := .seq (codeN b34 23) .ret
def c34_4 : Code := .seq c34_5 c34_41
def c34_2 : Code := .seq (codeN b34 5) c34_4
def c34_0 : Code := .seq (codeN b34 2) c34_2
theorem E34 : evK gS fi34 c34_12 fr st k = condK gS fi34 (fr.op (.tmp 16)).bool? .skip (.exit 0) fr st k ∧
 (evK gS fi34 c34_10 fr st k = opsR gS fi34 [mv 15 8 3,
 op1 16 (.binOp .gtr 3 (.tmp 15) (.const (.int .i64 0)) 3) 4] fr st (.seq c34_12 k)) ∧
 (evK gS fi34 c34_29 fr st k = opsR gS fi34 [mv 45 10 49,
 mv 46 0 29,
 mv 47 10 49,
 len1 48 47 49 3,
 cal 49 16 [(.tmp 46), (.tmp 48)] [29, 3] 3,
 mv 50 0 29,
 cal 51 29 [(.tmp 50), (.const (.string { data := #[97] }))] [29, 9] 27,
 ixa 52 49 45 49 0,
 sto 27 52 51] fr st k) ∧
 evK gS fi34 c34_28 fr st k = condK gS fi34 (fr.op (.tmp 44)).bool? c34_29 .skip fr st k ∧
 (evK gS fi34 c34_26 fr st k = opsR gS fi34 [mv 37 10 49,
 len1 38 37 49 3,
 op1 39 (.binOp .gtr 3 (.tmp 38) (.const (.int .i64 0)) 3) 4,
 mv 40 39 4,
 mk (some 41) (.move (.tmp 0)) 29 (some (3, true)),
 mk (some 42) (.call { callee := (.value (.func 16)), args := #[(.tmp 41), (.const (.int .i64 2))], argTypes := #[29, 3] }) 3 (some (3, true)),
 mk (some 43) (.binOp .eql 3 (.tmp 42) (.const (.int .i64 0)) 3) 4 (some (3, true)),
 op1 44 (.pick (.tmp 40) (.tmp 43) (.const (.bool false))) 4] fr st (.seq c34_28 k)) ∧
 (evK gS fi34 c34_31 fr st k = opsR gS fi34 [mv 53 10 49,
 asn 9 53 49] fr st k) ∧
 evK gS fi34 c34_25 fr st k = evK gS fi34 c34_26 fr st (.seq c34_31 k) ∧
 evK gS fi34 c34_22 fr st k = condK gS fi34 (fr.op (.tmp 28)).bool? c34_23 .skip fr st k ∧
 (evK gS fi34 c34_20 fr st k = opsR gS fi34 [mv 21 7 51,
 len1 22 21 51 3,
 op1 23 (.binOp .gtr 3 (.tmp 22) (.const (.int .i64 0)) 3) 4,
 mv 24 23 4,
 mk (some 25) (.move (.tmp 0)) 29 (some (3, true)),
 mk (some 26) (.call { callee := (.value (.func 16)), args := #[(.tmp 25), (.const (.int .i64 4))], argTypes := #[29, 3] }) 3 (some (3, true)),
 mk (some 27) (.binOp .eql 3 (.tmp 26) (.const (.int .i64 0)) 3) 4 (some (3, true)),
 op1 28 (.pick (.tmp 24) (.tmp 27) (.const (.bool false))) 4] fr st (.seq c34_22 k)) ∧
 (evK gS fi34 c34_37 fr st k = opsR gS fi34 [mv 57 1 49,
 mv 58 1 49,
 len1 59 58 49 3,
 op1 60 (.call { callee := (.builtin .min), args := #[(.tmp 59), (.const (.int .i64 5))], argTypes := #[3, 3] }) 3,
 op1 61 (.slice 49 (.tmp 57) none (some (.tmp 60)) none) 49,
 asn 9 61 49] fr st k) ∧
 evK gS fi34 c34_36 fr st k = condK gS fi34 (fr.op (.tmp 56)).bool? c34_37 .skip fr st k ∧
 (evK gS fi34 c34_34 fr st k = opsR gS fi34 [mv 54 0 29,
 cal 55 16 [(.tmp 54), (.const (.int .i64 12))] [29, 3] 3,
 op1 56 (.binOp .eql 3 (.tmp 55) (.const (.int .i64 0)) 3) 4] fr st (.seq c34_36 k)) ∧
 (evK gS fi34 c34_39 fr st k = opsR gS fi34 [mv 62 7 51,
 mv 63 9 49,
 op1 64 (.buildSlice 51 1 #[(0, (.tmp 63))]) 51,
 op1 65 (.call { callee := (.builtin .append), args := #[(.tmp 62), (.tmp 64)], argTypes := #[51, 51] }) 51,
 asn 7 65 51] fr st k) ∧
 (evK gS fi34 c34_17 fr st k = opsR gS fi34 [mv 19 0 29,
 cal 20 35 [(.tmp 19)] [29] 49,
 asn 9 20 49] fr st (.seq c34_19 k)) ∧
 (evK gS fi34 c34_40 fr st k = opsR gS fi34 [mv 17 8 3,
 op1 18 (.binOp .sub 3 (.tmp 17) (.const (.int .i64 1)) 3) 3,
 asn 8 18 3] fr st k) ∧
 evK gS fi34 c34_15 fr st k = evK gS fi34 c34_17 fr st (.blk 1 (.seq c34_40 k)) ∧
 evK gS fi34 c34_9 fr st k = evK gS fi34 c34_10 fr st (.seq c34_15 k) ∧
 evK gS fi34 c34_7 fr st k = evK gS fi34 c34_8 fr st (.blk 0 k) ∧
 (evK gS fi34 c34_5 fr st k = opsR gS fi34 [mv 11 0 29,
 mv 12 2 3,
 op1 13 (.binOp .add 3 (.tmp 12) (.const (.int .i64 1)) 3) 3,
 cal 14 16 [(.tmp 11), (.tmp 13)] [29, 3] 3,
 asn 8 14 3] fr st (.seq c34_7 k)) ∧
 (evK gS fi34 c34_41 fr st k = opsR gS fi34 [mv 66 7 51,
 asn 6 66 51] fr st (.seq .ret k)) ∧
 evK gS fi34 c34_4 fr st k = evK gS fi34 c34_5 fr st (.seq c34_41 k) ∧
 evK gS fi34 c34_2 fr st k = opsR gS fi34 [op1 7 (.assign (.const (.slice none 0 0))) 51] fr st (.seq c34_4 k) ∧
 evK gS fi34 c34_0 fr st k = opsR gS fi34 [op1 6 (.assign (.const (.slice none 0 0))) 51] fr st (.seq c34_2 k) := ⟨rfl, evK_rs 3 rfl (by kernel_rfl), evK_r 9 (by kernel_rfl), rfl, evK_rs 8 rfl (by kernel_rfl), evK_r 10 (by kernel_rfl), rfl, rfl, evK_rs 6 rfl (by kernel_rfl), evK_r 12 (by kernel_rfl), rfl, evK_rs 11 rfl (by kernel_rfl), evK_r 13 (by kernel_rfl), evK_rs 5 rfl (by kernel_rfl), evK_r 4 (by kernel_rfl), rfl, rfl, rfl, evK_rs 2 rfl (by kernel_rfl), evK_rs 14 rfl (by kernel_rfl), rfl, evK_rs 1 rfl (by kernel_rfl), evK_rs 0 rfl (by kernel_rfl)⟩
theorem m34 : mini fi34.body = c34_0 := by kernel_rfl
theorem n34_8 (fr : Fr) (st : St) (k : Kt) : nextK gS fi34 (.loop c34_9 k) .normal fr st = evK gS fi34 c34_8 fr st k := rfl
/-- Of one test. -/
def QSm (p : Pred) : Prop := p.name.length < 4611686018427387904 ∧ p.set.length * 48 ≤ 140737488355328
theorem psm_of {f : List Pred} (h : (∀ p ∈ f, QSm p) ∧ f.length ≤ 5) : PSm f := ⟨by omega, h.1⟩
theorem qsm_right {p : Pred} (hr : pright p = true) : QSm p := by
  refine ⟨(ok_of_right hr).1, ?_⟩
  unfold pright at hr
  split at hr
  · repeat' split at hr
    all_goals first
      | (simp only [Bool.and_eq_true, decide_eq_true_eq] at hr; omega)
      | cases hr
  · cases hr
theorem predV_qsm (l : List Int) (a j : Nat) : QSm (predV l a j [97]).1 := qsm_right (pred_right l a j rfl)
theorem filterV_qsm (l : List Int) (a j : Nat) : ∀ p ∈ (filterV l a j).1, QSm p := fun p hp => qsm_right ((filterV_ffv l a j).1.right p hp)
set_option maxHeartbeats 8000000 in
theorem T34_33 (raw : List Pred) (hraw : raw.length < 4611686018427387904) (l : List Int) (a id : Nat) (ha : a < 549755813888) (S : St) (h : FeedOk S id) (j : Nat) (hj : j < 549755812000) (L : List (List Pred)) (hL : L.length < 1000) (kl : Nat) (hkl : kl = 0 ∧ L = [] ∨ kl = 1) (r : Nat) (hr : r < 1000) (x : List Pred) (R : Out × St) (e2 e10 : E) (h2 : e2.Tame) (h10 : e10.Firm) (T : List (Nat × E)) (X : List (Nat × List V))
    (H : ∀ e9 T (h9 : e9.Tame), evK gS fi34 c34_8 { ps := [(0, .val (.ptr id 0)), (1, .val (.slice (encPreds raw))), (2, e2), (6, .own 0 []), (7, .own 1 (encPredss (L ++ [if fd l a j 12 = 0 then raw.take 5 else x]))), (8, .val (.int .i64 (r : Int))), (9, e9), (10, e10)], ts := T, lc := X } (setF S id l (nA l a (j + 1))) (.blk 0 (.seq c34_41 .nil)) = some R) :
    evK gS fi34 c34_33 { ps := [(0, .val (.ptr id 0)), (1, .val (.slice (encPreds raw))), (2, e2), (6, .own 0 []), (7, .own kl (encPredss L)), (8, .val (.int .i64 ((r + 1 : Nat) : Int))), (9, .val (.slice (encPreds x))), (10, e10)], ts := T, lc := X } (setF S id l (nA l a j)) (.blk 1 (.seq c34_40 (.loop c34_9 (.blk 0 (.seq c34_41 .nil))))) = some R := by
  have hm : fi34.marks = [3000009] := rfl
  have hl : fi34.locals = [] := rfl
  have hr : fi34.results = [.tmp 6] := rfl
  have hk := fun fr => k16 l a j id 12 fr S h ha (by omega) (by omega)
  have hw2 : IntKind.wrap .i64 (((r + 1 : Nat) : Int) - 1) = (r : Int) := by rw [wrap64 (by omega) (by omega)]; omega
  have hs1 := sizes_predss L
  have hs2 := fun x => predss_snoc L x
  have hl1 : (L.length + 1) * 24 ≤ 140737488355328 := by omega
  have hl2 : L.length + 1 ≤ 140737488355328 := by omega
  have hfr : ∀ st (f : List Pred), frz 6 st (.slice (encPreds f)) = some (.slice (encPreds f), st) := fun st f => frz_flat 6 st _ (by simp [V.flat])
  have htk : (encPreds raw).take 5 = encPreds (raw.take 5) := by simp [encPreds]
  have hsr := sizes_preds raw
  by_cases hc : fd l a j 12 = 0
  · rw [if_pos hc] at H
    by_cases h5 : 5 < raw.length
    · have hge : (5 : Int) ≤ (raw.length : Int) := by omega
      rcases hkl with ⟨rfl, rfl⟩ | rfl
      · have en : encPredss [] = [] := rfl
        rw [show encPredss ([] ++ [raw.take 5]) = [.slice (encPreds (raw.take 5))] from rfl] at H
        simp [-Int.natCast_add, -St.obj, -St.set, h5, hge, en, h2, h10, hk, hc, hw2, hfr, htk, hsr, hraw, -Int.not_le, -Int.not_lt, -Nat.not_le, -Nat.not_lt, ty3, ty4, ty9, ty27, ty29, ty49, ty51, hm, hl, hr, E34, e34_23, e34_33, e34_19, n34_8]
        exact H _ _ (tame_val _)
      · simp [-List.append_assoc, -Int.natCast_add, -St.obj, -St.set, h5, hge, h2, h10, hk, hc, hw2, hfr, htk, hsr, hs1, hs2, hl1, hl2, hraw, -Int.not_le, -Int.not_lt, -Nat.not_le, -Nat.not_lt, ty3, ty4, ty9, ty27, ty29, ty49, ty51, hm, hl, hr, E34, e34_23, e34_33, e34_19, n34_8]
        exact H _ _ (tame_val _)
    · have htk2 : (encPreds raw).take raw.length = encPreds (raw.take 5) := by
        rw [List.take_of_length_le (l := raw) (by omega), List.take_of_length_le (by simp)]
      rcases hkl with ⟨rfl, rfl⟩ | rfl
      · have en : encPredss [] = [] := rfl
        rw [show encPredss ([] ++ [raw.take 5]) = [.slice (encPreds (raw.take 5))] from rfl] at H
        simp [-Int.natCast_add, -St.obj, -St.set, h5, en, h2, h10, hk, hc, hw2, hfr, htk2, hsr, hraw, -Int.not_le, -Int.not_lt, -Nat.not_le, -Nat.not_lt, ty3, ty4, ty9, ty27, ty29, ty49, ty51, hm, hl, hr, E34, e34_23, e34_33, e34_19, n34_8]
        exact H _ _ (tame_val _)
      · simp [-List.append_assoc, -Int.natCast_add, -St.obj, -St.set, h5, h2, h10, hk, hc, hw2, hfr, htk2, hsr, hs1, hs2, hl1, hl2, hraw, -Int.not_le, -Int.not_lt, -Nat.not_le, -Nat.not_lt, ty3, ty4, ty9, ty27, ty29, ty49, ty51, hm, hl, hr, E34, e34_23, e34_33, e34_19, n34_8]
        exact H _ _ (tame_val _)
  · rw [if_neg hc] at H
    rcases hkl with ⟨rfl, rfl⟩ | rfl
    · have en : encPredss [] = [] := rfl
      rw [show encPredss ([] ++ [x]) = [.slice (encPreds x)] from rfl] at H
      simp [-Int.natCast_add, -St.obj, -St.set, en, h2, h10, hk, hc, hw2, -Int.not_le, -Int.not_lt, -Nat.not_le, -Nat.not_lt, ty3, ty4, ty9, ty27, ty29, ty49, ty51, hm, hl, hr, E34, e34_23, e34_33, e34_19, n34_8]
      exact H _ _ (tame_val _)
    · simp [-List.append_assoc, -Int.natCast_add, -St.obj, -St.set, h2, h10, hk, hc, hw2, hs1, hs2, hl1, hl2, -Int.not_le, -Int.not_lt, -Nat.not_le, -Nat.not_lt, ty3, ty4, ty9, ty27, ty29, ty49, ty51, hm, hl, hr, E34, e34_23, e34_33, e34_19, n34_8]
      exact H _ _ (tame_val _)
set_option maxHeartbeats 8000000 in
theorem T34_23 (raw : List Pred) (l : List Int) (a id : Nat) (ha : a < 549755813888) (st : St) (h : FeedOk st id) (j m : Nat) (hj : j < 549755810000) (L : List (List Pred)) (hL : L.length < 1000) (y : List Pred) (hy : L[(fd l a j L.length).toNat]? = some y) (hps : PSm y) (kl : Nat) (r : Nat) (R : Out × St) (e2 e9 e10 : E) (h2 : e2.Tame) (h9 : e9.Tame) (h10 : e10.Firm) (T : List (Nat × E)) (X : List (Nat × List V))
    (H : ∀ e10 T (h10 : e10.Firm), evK gS fi34 c34_33 { ps := [(0, .val (.ptr id 0)), (1, .val (.slice (encPreds raw))), (2, e2), (6, .own 0 []), (7, .own kl (encPredss L)), (8, .val (.int .i64 ((r + 1 : Nat) : Int))), (9, .val (.slice (encPreds (turnF l a y (j + 1)).1))), (10, e10)], ts := T, lc := X } (setF (dd st (m + (turnF l a y (j + 1)).2.2)) id l (nA l a (turnF l a y (j + 1)).2.1)) (.blk 1 (.seq c34_40 (.loop c34_9 (.blk 0 (.seq c34_41 .nil))))) = some R) :
    evK gS fi34 c34_23 { ps := [(0, .val (.ptr id 0)), (1, .val (.slice (encPreds raw))), (2, e2), (6, .own 0 []), (7, .own kl (encPredss L)), (8, .val (.int .i64 ((r + 1 : Nat) : Int))), (9, e9), (10, e10)], ts := T, lc := X } (setF (dd st m) id l (nA l a j)) (.seq c34_33 (.blk 1 (.seq c34_40 (.loop c34_9 (.blk 0 (.seq c34_41 .nil)))))) = some R := by
  have hm : fi34.marks = [3000009] := rfl
  have hl : fi34.locals = [] := rfl
  have hr : fi34.results = [.tmp 6] := rfl
  obtain ⟨hlt2, hye⟩ := List.getElem?_eq_some_iff.1 hy
  have hpos : 0 < L.length := by omega
  have hb := fd_bound l a j (n := (L.length : Int)) (by omega)
  have hk1 := fun fr => k16 l a j id L.length fr (dd st m) (h.dd m) ha (by omega) (by omega)
  obtain ⟨i, hi⟩ : ∃ i : Nat, fd l a j L.length = (i : Int) := ⟨(fd l a j L.length).toNat, by omega⟩
  rw [hi, Int.toNat_natCast] at hy
  rw [hi] at hb hk1
  have hlt3 : i < L.length := by omega
  have hye2 : L[i]'hlt3 = y := (List.getElem?_eq_some_iff.1 hy).2
  have hwp : (setF (dd st m) id l (nA l a (j + 1))).wp ≤ (setF (dd st m) id l (nA l a (j + 1))).objs.length := by
    rw [setF_wp, setF_len, dd_wp, dd_len]; have := h.1; have := h.2; omega
  have hk2 := fun fr => k51 y hps fr (setF (dd st m) id l (nA l a (j + 1))) hwp
  by_cases hyn : y = []
  · subst hyn
    have e1 : turnF l a [] (j + 1) = ([], j + 1, 0) := by unfold turnF; rw [if_pos rfl]
    rw [e1] at H
    simp only [copV, copK, copS, if_true] at hk2
    rw [show encPreds [] = [] from rfl] at H hk2
    have hey : encPreds [] = [] := rfl
    simp [-Int.natCast_add, -St.obj, -St.set, h2, h9, h10, hk1, hk2, hy, hye2, hlt3, hb, hey, -Int.not_le, -Int.not_lt, -Nat.not_le, -Nat.not_lt, ty3, ty4, ty9, ty27, ty29, ty49, ty51, hm, hl, hr, E34, e34_23, e34_19, n34_8]
    exact H _ _ (firm_own _ _)
  · have hn1 : 0 < y.length := List.length_pos_iff.2 hyn
    have e2 : copS (setF (dd st m) id l (nA l a (j + 1))) y = setF (nw st (m + (y.length - 1)) (y.flatMap Pred.cells)) id l (nA l a (j + 1)) := by
      unfold copS; rw [if_neg hyn, setF_gr (h.dd m), nw_dd]
    have e3 : copV (setF (dd st m) id l (nA l a (j + 1))).objs.length y = .sref false 13 (st.objs.length + (m + (y.length - 1))) 0 y.length := by
      unfold copV; rw [if_neg hyn, setF_len, dd_len, Nat.add_assoc]
    have e4 : copK y = none := by unfold copK; rw [if_neg hyn]
    rw [e2, e3, e4] at hk2
    simp only [retE] at hk2
    have hyl := hps.1
    generalize hq : m + (y.length - 1) = q at *
    have hk3 := fun fr => k16 l a (j + 1) id 2 fr (nw st q (y.flatMap Pred.cells)) (h.nw q _) ha (by omega) (by omega)
    have hgt : (0 : Int) < (y.length : Int) := by omega
    by_cases hc : fd l a (j + 1) 2 = 0
    · have e5 : turnF l a y (j + 1) = (y.take (fd l a (j + 2) y.length).toNat ++ [(predV l a (j + 3) [97]).1] ++ y.drop ((fd l a (j + 2) y.length).toNat + 1), j + 3 + (predV l a (j + 3) [97]).2, y.length + (predV l a (j + 3) [97]).1.set.length) := by
        unfold turnF; rw [if_neg hyn, if_pos hc]
      rw [e5] at H
      have hk4 := fun fr => k16 l a (j + 2) id y.length fr (nw st q (y.flatMap Pred.cells)) (h.nw q _) ha (by omega) (by omega)
      have hb2 := fd_bound l a (j + 2) (n := (y.length : Int)) (by omega)
      obtain ⟨i2, hi2⟩ : ∃ i : Nat, fd l a (j + 2) y.length = (i : Int) := ⟨(fd l a (j + 2) y.length).toNat, by omega⟩
      rw [hi2] at hb2 hk4 H
      rw [Int.toNat_natCast] at H
      have hk5 := fun fr => k29 l a (j + 3) id [97] fr (nw st q (y.flatMap Pred.cells)) (h.nw q _) ha (by omega)
      have hpa := pred_asks l a (j + 3) [97]
      generalize predV l a (j + 3) [97] = P at *
      obtain ⟨p, cnt⟩ := P
      simp only at hk5 H hpa
      have hob := obj_mid h q p.set.length (y.flatMap Pred.cells) l (nA l a (j + 3 + cnt))
      have hst := fun cs' => set_mid' h q p.set.length (y.flatMap Pred.cells) cs' l (nA l a (j + 3 + cnt))
      have hspl := row_splices Pred.cells 13 pcells_len y [p] i2 (by simp; omega)
      have hpc : [p].flatMap Pred.cells = p.cells := by simp
      rw [List.length_singleton, hpc] at hspl
      simp only [Pred.cells] at hspl
      have hyl2 : (y.take i2 ++ [p] ++ y.drop (i2 + 1)).length = y.length := by simp; omega
      have hne2 : y.take i2 ++ [p] ++ y.drop (i2 + 1) ≠ [] := by simp
      have hz := frz_preds 5 (st.objs.length + q) (y.take i2 ++ [p] ++ y.drop (i2 + 1)) hne2 (obj_mid h q p.set.length _ l (nA l a (j + 3 + cnt))) (set_mid h q p.set.length _ l (nA l a (j + 3 + cnt)))
      rw [hyl2] at hz
      have hdd : q + 1 + p.set.length = m + (y.length + p.set.length) := by omega
      rw [hdd] at hz
      generalize y.take i2 ++ [p] ++ y.drop (i2 + 1) = y2 at *
      have c1 : (i2 : Int) < (y.length : Int) := by omega
      have c2 : i2 < y.length := by omega
      simp [-Int.natCast_add, -St.obj, -St.set, -splice, -List.flatMap_append, h2, h9, h10, hk1, hk2, hk3, hk4, hk5, hy, hye2, hlt3, hb, hgt, hc, hn1, hob, hst, hspl, hz, c1, c2, -Int.not_le, -Int.not_lt, -Nat.not_le, -Nat.not_lt, ty3, ty4, ty9, ty27, ty29, ty49, ty51, hm, hl, hr, E34, e34_23, e34_19, n34_8]
      exact H _ _ (firm_val _)
    · have e5 : turnF l a y (j + 1) = (y, j + 2, y.length) := by unfold turnF; rw [if_neg hyn, if_neg hc]
      rw [e5] at H
      have hz := frz_preds 5 (st.objs.length + q) y hyn (obj_gr h q _ l (nA l a (j + 2))) (set_gr h q _ l (nA l a (j + 2)))
      have hdd : q + 1 = m + y.length := by omega
      rw [hdd] at hz
      simp [-Int.natCast_add, -St.obj, -St.set, h2, h9, h10, hk1, hk2, hk3, hy, hye2, hlt3, hb, hgt, hc, hn1, hz, -Int.not_le, -Int.not_lt, -Nat.not_le, -Nat.not_lt, ty3, ty4, ty9, ty27, ty29, ty49, ty51, hm, hl, hr, E34, e34_23, e34_19, n34_8]
      exact H _ _ (firm_val _)
set_option maxHeartbeats 8000000 in
theorem T34_19 (raw : List Pred) (l : List Int) (a id : Nat) (ha : a < 549755813888) (st : St) (h : FeedOk st id) (j m : Nat) (hj : j < 549755809000) (L : List (List Pred)) (hL : L.length < 1000) (hps : ∀ f ∈ L, PSm f) (f : List Pred) (kl : Nat) (r : Nat) (R : Out × St) (e2 e10 : E) (h2 : e2.Tame) (h10 : e10.Firm) (T : List (Nat × E)) (X : List (Nat × List V))
    (H : ∀ e10 T (h10 : e10.Firm), evK gS fi34 c34_33 { ps := [(0, .val (.ptr id 0)), (1, .val (.slice (encPreds raw))), (2, e2), (6, .own 0 []), (7, .own kl (encPredss L)), (8, .val (.int .i64 ((r + 1 : Nat) : Int))), (9, .val (.slice (encPreds (halfF l a L f j).1))), (10, e10)], ts := T, lc := X } (setF (dd st (m + (halfF l a L f j).2.2)) id l (nA l a (halfF l a L f j).2.1)) (.blk 1 (.seq c34_40 (.loop c34_9 (.blk 0 (.seq c34_41 .nil))))) = some R) :
    evK gS fi34 c34_19 { ps := [(0, .val (.ptr id 0)), (1, .val (.slice (encPreds raw))), (2, e2), (6, .own 0 []), (7, .own kl (encPredss L)), (8, .val (.int .i64 ((r + 1 : Nat) : Int))), (9, .val (.slice (encPreds f))), (10, e10)], ts := T, lc := X } (setF (dd st m) id l (nA l a j)) (.blk 1 (.seq c34_40 (.loop c34_9 (.blk 0 (.seq c34_41 .nil))))) = some R := by
  have hm : fi34.marks = [3000009] := rfl
  have hl : fi34.locals = [] := rfl
  have hr : fi34.results = [.tmp 6] := rfl
  by_cases hLn : L = []
  · subst hLn
    have e1 : halfF l a [] f j = (f, j, 0) := by unfold halfF; rw [if_pos rfl]
    rw [e1] at H
    have en : encPredss [] = [] := rfl
    rw [en] at H ⊢
    simp [-Int.natCast_add, -St.obj, -St.set, h2, h10, -Int.not_le, -Int.not_lt, -Nat.not_le, -Nat.not_lt, ty3, ty4, ty9, ty27, ty29, ty49, ty51, hm, hl, hr, E34, e34_19, n34_8]
    exact H _ _ h10
  · have hpos : 0 < L.length := List.length_pos_iff.2 hLn
    have hgt : (0 : Int) < (L.length : Int) := by omega
    have hk1 := fun fr => k16 l a j id 4 fr (dd st m) (h.dd m) ha (by omega) (by omega)
    by_cases hc : fd l a j 4 = 0
    · have e1 : halfF l a L f j = turnF l a (L.getD (fd l a (j + 1) L.length).toNat []) (j + 2) := by unfold halfF; rw [if_neg hLn, if_pos hc]
      rw [e1] at H
      have hb := fd_bound l a (j + 1) (n := (L.length : Int)) (by omega)
      have hi : (fd l a (j + 1) L.length).toNat < L.length := by omega
      rw [List.getD_eq_getElem?_getD, List.getElem?_eq_getElem hi, Option.getD_some] at H
      have TT := fun e9 T h9 => T34_23 raw l a id ha st h (j + 1) m (by omega) L hL _ (List.getElem?_eq_getElem hi) (hps _ (List.getElem_mem hi)) kl r R e2 e9 e10 h2 h9 h10 T X H
      simp [-Int.natCast_add, -St.obj, -St.set, h2, h10, hk1, hgt, hpos, hc, -Int.not_le, -Int.not_lt, -Nat.not_le, -Nat.not_lt, ty3, ty4, ty9, ty27, ty29, ty49, ty51, hm, hl, hr, E34, e34_19, n34_8]
      exact TT _ _ (tame_val _)
    · have e1 : halfF l a L f j = (f, j + 1, 0) := by unfold halfF; rw [if_neg hLn, if_neg hc]
      rw [e1] at H
      simp [-Int.natCast_add, -St.obj, -St.set, h2, h10, hk1, hgt, hpos, hc, -Int.not_le, -Int.not_lt, -Nat.not_le, -Nat.not_lt, ty3, ty4, ty9, ty27, ty29, ty49, ty51, hm, hl, hr, E34, e34_19, n34_8]
      exact H _ _ h10
/-- How much room a row's cells take that was laid one by one. -/
def kof {α : Type} (k : Nat) (l : List α) : Nat := if l = [] then 0 else k
theorem kof_snoc {α : Type} (k : Nat) (l : List α) (x : α) : kof k (l ++ [x]) = k := by unfold kof; rw [if_neg (by simp)]
theorem kof_or {α : Type} (k : Nat) (l : List α) : kof k l = 0 ∧ l = [] ∨ kof k l = k := by
  unfold kof; split
  · exact .inl ⟨rfl, by assumption⟩
  · exact .inr rfl
set_option maxHeartbeats 8000000 in
theorem L34 (raw : List Pred) (hraw : raw.length < 4611686018427387904) (hrq : ∀ p ∈ raw, QSm p) (l : List Int) (a id : Nat) (ha : a < 549755813888) (st : St) (h : FeedOk st id) : ∀ (r j m : Nat) (L : List (List Pred)) (e2 e9 e10 : E) (h2 : e2.Tame) (h9 : e9.Tame) (h10 : e10.Firm) (T : List (Nat × E)) (X : List (Nat × List V)),
    L.length + r < 1000 → (∀ f ∈ L, (∀ p ∈ f, QSm p) ∧ f.length ≤ 5) → j + 49 * r < 549755800000 →
    evK gS fi34 c34_8 { ps := [(0, .val (.ptr id 0)), (1, .val (.slice (encPreds raw))), (2, e2), (6, .own 0 []), (7, .own (kof 1 L) (encPredss L)), (8, .val (.int .i64 (r : Int))), (9, e9), (10, e10)], ts := T, lc := X } (setF (dd st m) id l (nA l a j)) (.blk 0 (.seq c34_41 .nil)) = some (.ret (.slice (encPredss (filtersG raw l a r L j m).1)) (some (kof 1 (filtersG raw l a r L j m).1)), setF (dd st (filtersG raw l a r L j m).2.2) id l (nA l a (filtersG raw l a r L j m).2.1)) := by
  intro r
  have hm : fi34.marks = [3000009] := rfl
  have hl : fi34.locals = [] := rfl
  have hr : fi34.results = [.tmp 6] := rfl
  induction r with
  | zero =>
    intro j m L e2 e9 e10 h2 h9 h10 T X hLr hLq hj
    rw [show filtersG raw l a 0 L j m = (L, j, m) from rfl]
    refine evK_loop c34_9 _ _ _ _ rfl ?_
    rcases kof_or 1 L with ⟨hk0, rfl⟩ | hk0
    · have en : encPredss [] = [] := rfl
      rw [hk0, en]
      simp [-Int.natCast_add, -St.obj, -St.set, h2, h9, h10, -Int.not_le, -Int.not_lt, -Nat.not_le, -Nat.not_lt, ty3, ty4, ty9, ty27, ty29, ty49, ty51, hm, hl, hr, E34, e34_19, n34_8]
    · rw [hk0]
      simp [-Int.natCast_add, -St.obj, -St.set, h2, h9, h10, -Int.not_le, -Int.not_lt, -Nat.not_le, -Nat.not_lt, ty3, ty4, ty9, ty27, ty29, ty49, ty51, hm, hl, hr, E34, e34_19, n34_8]
  | succ r ih =>
    intro j m L e2 e9 e10 h2 h9 h10 T X hLr hLq hj
    have hsa := stepF_asks raw l a L j
    have hsq := stepF_all (P := QSm) (k := 5) raw l a hrq (predV_qsm l a) (filterV_qsm l a) (Nat.le_refl _) L hLq j
    have hg : filtersG raw l a (r + 1) L j m = filtersG raw l a r (L ++ [(stepF raw l a L j).1]) (stepF raw l a L j).2.1 (m + (stepF raw l a L j).2.2) := rfl
    rw [hg]
    have hLq2 : ∀ f ∈ L ++ [(stepF raw l a L j).1], (∀ p ∈ f, QSm p) ∧ f.length ≤ 5 := fun f hf => by
      rcases List.mem_append.1 hf with h' | h'
      · exact hLq f h'
      · simp at h'; subst h'; exact hsq
    have IH2 := fun e9 e10 h9 h10 T => ih (stepF raw l a L j).2.1 (m + (stepF raw l a L j).2.2) (L ++ [(stepF raw l a L j).1]) e2 e9 e10 h2 h9 h10 T X (by simp; omega) hLq2 (by omega)
    rw [kof_snoc] at IH2
    generalize hR : (Out.ret (V.slice (encPredss (filtersG raw l a r (L ++ [(stepF raw l a L j).1]) (stepF raw l a L j).2.1 (m + (stepF raw l a L j).2.2)).1)) (some (kof 1 (filtersG raw l a r (L ++ [(stepF raw l a L j).1]) (stepF raw l a L j).2.1 (m + (stepF raw l a L j).2.2)).1)), setF (dd st (filtersG raw l a r (L ++ [(stepF raw l a L j).1]) (stepF raw l a L j).2.1 (m + (stepF raw l a L j).2.2)).2.2) id l (nA l a (filtersG raw l a r (L ++ [(stepF raw l a L j).1]) (stepF raw l a L j).2.1 (m + (stepF raw l a L j).2.2)).2.1)) = R at IH2 ⊢
    clear hR
    have hk35 := fun fr => k35 l a j id fr (dd st m) (h.dd m) ha (by omega)
    rw [dd_dd] at hk35
    have hfa := filterV_asks l a j
    have hha := halfF_asks l a L (filterV l a j).1 (filterV l a j).2.1
    unfold stepF at IH2
    simp only at IH2
    have T33 := fun e10 h10 T => T34_33 raw hraw l a id ha (dd st (m + ((filterV l a j).2.2 + (halfF l a L (filterV l a j).1 (filterV l a j).2.1).2.2))) (h.dd _) (halfF l a L (filterV l a j).1 (filterV l a j).2.1).2.1 (by omega) L (by omega) (kof 1 L) (kof_or 1 L) r (by omega) (halfF l a L (filterV l a j).1 (filterV l a j).2.1).1 R e2 e10 h2 h10 T X (fun e9 T h9 => IH2 e9 e10 h9 h10 T)
    rw [← Nat.add_assoc] at T33
    have T19 := fun e10 h10 T => T34_19 raw l a id ha st h (filterV l a j).2.1 (m + (filterV l a j).2.2) (by omega) L (by omega) (fun f hf => psm_of (hLq f hf)) (filterV l a j).1 (kof 1 L) r R e2 e10 h2 h10 T X (fun e10 T h10 => T33 e10 h10 T)
    have hpos : (0 : Int) < ((r + 1 : Nat) : Int) := by omega
    have hfr : ∀ st (f : List Pred), frz 6 st (.slice (encPreds f)) = some (.slice (encPreds f), st) := fun st f => frz_flat 6 st _ (by simp [V.flat])
    refine evK_loop c34_9 _ _ _ _ rfl ?_
    simp [-Int.natCast_add, -St.obj, -St.set, h2, h9, h10, hk35, hpos, hfr, -Int.not_le, -Int.not_lt, -Nat.not_le, -Nat.not_lt, ty3, ty4, ty9, ty27, ty29, ty49, ty51, hm, hl, hr, E34, n34_8]
    exact T19 _ h10 _
set_option maxHeartbeats 8000000 in
theorem c34 (raw : List Pred) (hraw : raw.length < 4611686018427387904) (hrq : ∀ p ∈ raw, QSm p) (l : List Int) (a j id : Nat) (n : Int) (hn0 : 0 ≤ n) (hn : n < 900) (st : St) (h : FeedOk st id) (ha : a < 549755813888) (hj : j < 549755700000) :
    EvF gS 34 [.ptr id 0, .slice (encPreds raw), .int .i64 n] (setF st id l (nA l a j)) = some (.ret (.slice (encPredss (filtersV raw l a j n).1)) (some (kof 1 (filtersV raw l a j n).1)), setF (dd st (filtersV raw l a j n).2.2) id l (nA l a (filtersV raw l a j n).2.1)) := by
  refine EvF_start fi34_eq (fun x h => by cases h) m34 ?_
  rw [st34]
  have hm : fi34.marks = [3000009] := rfl
  have hl : fi34.locals = [] := rfl
  have hr : fi34.results = [.tmp 6] := rfl
  have hb := fd_bound l a j (n := n + 1) (by omega)
  have hw : IntKind.wrap .i64 (n + 1) = n + 1 := wrap64 (by omega) (by omega)
  have hk := fun fr => k16 l a j id (n + 1) fr st h ha (by omega) (by omega)
  unfold filtersV
  generalize fd l a j (n + 1) = z at *
  obtain ⟨r, rfl⟩ : ∃ r : Nat, z = (r : Int) := ⟨z.toNat, by omega⟩
  rw [Int.toNat_natCast]
  have L0 := fun e2 e9 e10 h2 h9 h10 T X => L34 raw hraw hrq l a id ha st h r (j + 1) 0 [] e2 e9 e10 h2 h9 h10 T X (by simp; omega) (by simp) (by omega)
  rw [dd_zero, show kof 1 ([] : List (List Pred)) = 0 from rfl, show encPredss [] = [] from rfl] at L0
  simp [-Int.natCast_add, -St.obj, -St.set, hk, hw, L0, -Int.not_le, -Int.not_lt, -Nat.not_le, -Nat.not_lt, ty3, ty4, ty9, ty27, ty29, ty49, ty51, hm, hl, hr, E34, e34_19, n34_8]
theorem k34 (raw : List Pred) (hraw : raw.length < 4611686018427387904) (hrq : ∀ p ∈ raw, QSm p) (l : List Int) (a j id : Nat) (n : Int) (hn0 : 0 ≤ n) (hn : n < 900) (fr : Fr) (st : St) (h : FeedOk st id) (ha : a < 549755813888) (hj : j < 549755700000) :
    callStep gS (EvF gS) 34 [.ptr id 0, .slice (encPreds raw), .int .i64 n] fr (setF st id l (nA l a j)) = some (.ok (.own (kof 1 (filtersV raw l a j n).1) (encPredss (filtersV raw l a j n).1)) (fr.map E.noMem) (setF (dd st (filtersV raw l a j n).2.2) id l (nA l a (filtersV raw l a j n).2.1))) := by
  unfold callStep
  simp only [show gS.ext 34 = none from rfl, fi34_eq, show fi34.pure = false from rfl, Bool.false_eq_true, if_false, c34 raw hraw hrq l a j id n hn0 hn st h ha hj, retE]
end
end Go.Proofs.Ytclpbfkbpcjejaa
namespace Go.Proofs.Ytclpbfkbpcjejaa
open Go Go.Ab
set_option linter.unusedVariables false
set_option linter.unusedSimpArgs false
set_option linter.unnecessarySimpa false
set_option maxRecDepth 20000
noncomputable section
variable (fr : Fr) (st : St) (k : Kt)
def fi46 : FI := { body := codeOf Try.f46, ntmps := 2, results := [.tmp 0], pers := [0], locals := [], pure := true, marks := [] }
theorem fi46_eq : gS.fn 46 = some fi46 := by kernel_rfl
theorem x46 : gS.ext 46 = none := rfl
theorem p46 : fi46.pure = true := rfl
theorem k46 (fr : Fr) (st : St) : callStep gS (EvF gS) 46 [] fr st = some (.ok (.val (.bool true)) fr st) := by
  have hc : EvF gS 46 [] ⟨[], 0⟩ = some (.ret (.bool true) none, ⟨[], 0⟩) := Evn.lim ⟨400, fun n hn => by
    obtain ⟨m, rfl⟩ : ∃ m, n = m + 400 := ⟨n - 400, by omega⟩
    kernel_rfl⟩
  exact call_pure' rfl fi46_eq rfl rfl ⟨_, hc⟩ rfl
theorem freduce_mem {l : List (List Pred)} : ∀ {row : List (List Pred)} {g : List Pred}, g ∈ l.foldl fredStep row → g ∈ row ∨ g ∈ l := by
  induction l with
  | nil => intro row g h; exact .inl h
  | cons f r ih =>
    intro row g h
    rcases ih h with h | h
    · rcases fredStep_mem h with h | rfl
      · exact .inl h
      · exact .inr (by simp)
    · exact .inr (by simp [h])
theorem freduce_len {l : List (List Pred)} : ∀ (row : List (List Pred)), (l.foldl fredStep row).length ≤ row.length + l.length := by
  induction l with
  | nil => intro row; simp
  | cons f r ih =>
    intro row
    have := ih (fredStep row f)
    have := fredStep_len row f
    simp only [List.foldl_cons, List.length_cons]; omega
end
end Go.Proofs.Ytclpbfkbpcjejaa
namespace Go.Ab
open Go
set_option linter.unusedVariables false
set_option linter.unusedSimpArgs false
set_option linter.unnecessarySimpa false
/-- Attributes of a feed's values. -/
def AFV (A : List Attr) : Prop := ∀ x ∈ A, ∃ r, FV x.v r
theorem attrsG_fv (l : List Int) (a : Nat) : ∀ (q : List (List UInt8 × Int)) (j : Nat), AFV (attrsG l a q j).1
  | [], j => by intro x hx; simp [attrsG] at hx
  | (nm, n) :: r, j => by
    unfold attrsG
    split
    · intro x hx
      rcases List.mem_cons.1 hx with rfl | hx
      · exact (vr_value _ _ _).2
      · exact attrsG_fv l a r (j + 3) x hx
    · exact attrsG_fv l a r (j + 1)
theorem attrsV_fv (l : List Int) (a j : Nat) : AFV (attrsV l a j).1 := attrsG_fv l a A5 j
theorem aget_fv : ∀ {A : List Attr} {nm : List UInt8}, AFV A → ∃ r, FV (aget A nm).1 r
  | [], nm, _ => fv_zero
  | x :: r, nm, h => by
    unfold aget
    split
    · exact h x (by simp)
    · exact aget_fv fun y hy => h y (by simp [hy])
def FF (f : List Pred) : Prop := ∀ p ∈ f, PFV p
/-- What one covers takes nothing that it does not. -/
theorem covers_sound {f g : List Pred} {A : List Attr} (hf : FF f) (hg : FF g) (hA : AFV A) (hc : fcovers f g = true) (ht : ftakes g A = true) : ftakes f A = true := by
  unfold ftakes at ht ⊢
  rw [List.all_eq_true] at ht ⊢
  unfold fcovers at hc
  rw [Bool.or_eq_true] at hc
  rcases hc with hc | hc
  · obtain ⟨q, hq, hv⟩ := List.any_eq_true.1 hc
    have h1 := ht q hq
    rw [Bool.and_eq_true] at h1
    rw [void_none (hg q hq) (aget_fv hA) hv] at h1
    exact absurd h1.2 (by simp)
  · intro p hp
    have h1 := List.all_eq_true.1 hc p hp
    obtain ⟨q, hq, h2⟩ := List.any_eq_true.1 h1
    rw [Bool.and_eq_true, decide_eq_true_eq] at h2
    have h3 := ht q hq
    rw [Bool.and_eq_true] at h3 ⊢
    rw [← h2.1]
    exact ⟨h3.1, sound (hg q hq) (hf p hp) (aget_fv hA) h2.2 h3.2⟩
def Apt (a b : List Pred) : Prop := fcovers a b = false ∧ fcovers b a = false
structure Row (row : List (List Pred)) : Prop where
  apart : row.Pairwise Apt
theorem fstep_row {row : List (List Pred)} {f : List Pred} (h : Row row) : Row (fstep row f) := by
  unfold fstep
  split
  · exact h
  · rename_i hn
    have hn' : ∀ g ∈ row, fcovers g f = false := by
      intro g hg
      cases hc : fcovers g f with
      | false => rfl
      | true => exact absurd (List.any_eq_true.2 ⟨g, hg, hc⟩) hn
    refine ⟨List.pairwise_append.2 ⟨h.apart.filter _, by simp, fun a ha b hb => ?_⟩⟩
    simp at hb; subst hb
    have h1 := List.mem_filter.1 ha
    exact ⟨hn' a h1.1, by simpa using h1.2⟩
theorem freduce_row : ∀ (l : List (List Pred)) (row : List (List Pred)), Row row → Row (l.foldl fstep row)
  | [], _, h => h
  | f :: r, row, h => freduce_row r _ (fstep_row h)
theorem row_apart {row : List (List Pred)} (h : Row row) {i k : Nat} {a b : List Pred} (hi : row[i]? = some a) (hk : row[k]? = some b) (hne : i ≠ k) : fcovers a b = false := by
  obtain ⟨hi1, rfl⟩ := List.getElem?_eq_some_iff.1 hi
  obtain ⟨hk1, rfl⟩ := List.getElem?_eq_some_iff.1 hk
  have hp := List.pairwise_iff_getElem.1 h.apart
  rcases Nat.lt_or_gt_of_ne hne with h1 | h1
  · exact (hp i k hi1 hk1 h1).1
  · exact (hp k i hk1 hi1 h1).2
theorem fstep_ff {row : List (List Pred)} {f : List Pred} (h : ∀ g ∈ row, FF g) (hf : FF f) : ∀ g ∈ fstep row f, FF g := by
  unfold fstep
  split
  · exact h
  · intro g hg
    rcases List.mem_append.1 hg with hg | hg
    · exact h g (List.mem_filter.1 hg).1
    · simp at hg; subst hg; exact hf
theorem fstep_any {row : List (List Pred)} {f : List Pred} {A : List Attr} (h : ∀ g ∈ row, FF g) (hf : FF f) (hA : AFV A) : fany (fstep row f) A = (fany row A || ftakes f A) := by
  unfold fstep
  split
  · rename_i hc
    obtain ⟨g, hg, hc⟩ := List.any_eq_true.1 hc
    cases ht : ftakes f A with
    | false => rw [Bool.or_false]
    | true =>
      have : fany row A = true := List.any_eq_true.2 ⟨g, hg, covers_sound (h g hg) hf hA hc ht⟩
      rw [this]; rfl
  · have e1 : fany (row.filter (fun g => !fcovers f g) ++ [f]) A = (fany (row.filter fun g => !fcovers f g) A || ftakes f A) := by
      unfold fany; rw [List.any_append]; simp
    rw [e1]
    cases ht : ftakes f A with
    | true => rw [Bool.or_true, Bool.or_true]
    | false =>
      rw [Bool.or_false, Bool.or_false]
      unfold fany
      rw [Bool.eq_iff_iff, List.any_eq_true, List.any_eq_true]
      constructor
      · rintro ⟨g, hg, h1⟩; exact ⟨g, (List.mem_filter.1 hg).1, h1⟩
      · rintro ⟨g, hg, h1⟩
        refine ⟨g, List.mem_filter.2 ⟨hg, ?_⟩, h1⟩
        cases hc : fcovers f g with
        | false => rfl
        | true =>
          have := covers_sound hf (h g hg) hA hc h1
          rw [ht] at this; cases this
/-- One of some filters takes what one of the reduced row takes. -/
theorem freduce_any {A : List Attr} (hA : AFV A) : ∀ (l row : List (List Pred)), (∀ g ∈ row, FF g) → (∀ g ∈ l, FF g) → fany (l.foldl fstep row) A = (fany row A || fany l A)
  | [], row, _, _ => by simp [fany]
  | f :: r, row, h1, h2 => by
    rw [List.foldl_cons, freduce_any hA r (fstep row f) (fstep_ff h1 (h2 f (by simp))) (fun g hg => h2 g (by simp [hg])), fstep_any h1 (h2 f (by simp)) hA]
    unfold fany
    rw [List.any_cons, Bool.or_assoc]
theorem fstep_ne (row : List (List Pred)) (f : List Pred) : fstep row f ≠ [] := by
  unfold fstep
  split
  · rename_i h
    obtain ⟨g, hg, _⟩ := List.any_eq_true.1 h
    exact List.ne_nil_of_mem hg
  · simp
theorem freduce_ne : ∀ (l row : List (List Pred)), (row ≠ [] ∨ l ≠ []) → l.foldl fstep row ≠ []
  | [], row, h => by simpa using h
  | f :: r, row, _ => freduce_ne r _ (.inl (fstep_ne row f))
end Go.Ab
namespace Go.Proofs.Ytclpbfkbpcjejaa
open Go Go.Ab
set_option linter.unusedVariables false
set_option linter.unusedSimpArgs false
set_option linter.unnecessarySimpa false
set_option maxRecDepth 20000
noncomputable section
variable (fr : Fr) (st : St) (k : Kt)
def fi9 : FI := { body := codeOf Try.f9, ntmps := 117, results := [.tmp 4], pers := [0, 1, 4, 5, 6, 7, 8, 9, 10, 11, 12, 13], locals := [], pure := false, marks := [] }
theorem fi9_eq : gS.fn 9 = some fi9 := by kernel_rfl
theorem st9 (a0 a1 : V) : startFr fi9 [a0, a1] = { ps := [(0, .val a0), (1, .val a1), (4, .any), (5, .any), (6, .any), (7, .any), (8, .any), (9, .any), (10, .any), (11, .any), (12, .any), (13, .any)], ts := [], lc := [] } := rfl
def b9 : Code := mini (codeOf Try.f9)
def c9_12 : Code := .seq (codeN b9 303) .ret
def c9_11 : Code := .cond (.tmp 39) c9_12 .skip
def c9_9 : Code := .seq (codeN b9 79) c9_11
def c9_24 : Code := .cond (.tmp 43) .skip (.exit 0)
def c9_22 : Code := .seq (codeN b9 2143) c9_24
def c9_36 : Code := .cond (.tmp 49) .skip (.exit 2)
def c9_34 : Code := .seq (codeN b9 135775) c9_36
def r9_42 : Array Oper := regOps (codeN (codeOf Try.f9) 561759)
def c9_42 : Code := .region 12 r9_42 true
def q9_42 : List (Oper × Fl) := [(mv 52 8 3, ⟨true, false, true, false, false, false, true, true, false, false, []⟩),
 (mv 53 9 3, ⟨true, false, true, false, true, false, true, true, false, false, []⟩),
 (bop 54 .neq 3 52 53 3 4, ⟨true, true, true, false, true, false, true, true, false, false, []⟩),
 (mv 55 54 4, ⟨true, true, true, false, true, false, true, true, false, false, []⟩),
 (mk (some 56) (.move (.tmp 7)) 51 (some (3, true)), ⟨true, false, true, false, false, false, true, true, false, false, []⟩),
 (mk (some 57) (.move (.tmp 8)) 3 (some (3, true)), ⟨true, false, true, false, false, false, true, true, false, false, []⟩),
 (mk (some 58) (.indexAddr 51 (.tmp 56) (.tmp 57)) 0 (some (3, true)), ⟨true, false, true, false, false, false, true, true, false, false, []⟩),
 (mk (some 59) (.load 49 (.tmp 58)) 49 (some (3, true)), ⟨true, false, true, false, false, false, true, true, false, false, []⟩),
 (mk (some 60) (.move (.tmp 7)) 51 (some (3, true)), ⟨true, false, true, false, false, false, true, true, false, false, []⟩),
 (mk (some 61) (.move (.tmp 9)) 3 (some (3, true)), ⟨true, false, true, false, true, false, true, true, false, false, []⟩),
 (mk (some 62) (.indexAddr 51 (.tmp 60) (.tmp 61)) 0 (some (3, true)), ⟨true, false, true, false, true, false, true, true, false, false, []⟩),
 (mk (some 63) (.load 49 (.tmp 62)) 49 (some (3, true)), ⟨true, false, true, false, true, false, true, true, false, false, []⟩),
 (mk (some 64) (.call { callee := (.value (.func 43)), args := #[(.tmp 59), (.tmp 63)], argTypes := #[49, 49] }) 4 (some (3, true)), ⟨true, true, true, false, true, true, true, true, false, false, []⟩),
 (op1 65 (.pick (.tmp 55) (.tmp 64) (.const (.bool false))) 4, ⟨true, true, true, false, true, false, true, true, false, false, []⟩)]
def c9_44 : Code := .seq (codeN b9 2396767) .ret
def c9_43 : Code := .cond (.tmp 65) c9_44 .skip
def c9_41 : Code := .seq c9_42 c9_43
def c9_48 : Code := codeN b9 234079
def c9_39 : Code := .seq (.block 3 c9_41) c9_48
def c9_33 : Code := .seq c9_34 c9_39
def c9_32 : Code := .loop c9_33
def c9_31 : Code := .block 2 c9_32
def c9_29 : Code := .seq (codeN b9 8799) c9_31
def c9_49 : Code := codeN b9 3679
theorem e9_49 : evK gS fi9 c9_49 fr st k = opsR gS fi9 [mv 44 8 3,
 op1 45 (.binOp .add 3 (.tmp 44) (.const (.int .i64 1)) 3) 3,
 asn 8 45 3] fr st k := evK_r 8 (by kernel_rfl)
def c9_27 : Code := .seq (.block 1 c9_29) c9_49
def c9_21 : Code := .seq c9_22 c9_27
def c9_20 : Code := .loop c9_21
def c9_19 : Code := .block 0 c9_20
def c9_17 : Code := .seq (codeN b9 159) c9_19
def c9_60 : Code := .cond (.tmp 70) .skip (.exit 4)
def c9_58 : Code := .seq (codeN b9 8575) c9_60
def c9_71 : Code := .seq (codeN b9 608639) .ret
def c9_70 : Code := .cond (.tmp 81) c9_71 .skip
def c9_68 : Code := .seq (codeN b9 149887) c9_70
def c9_82 : Code := .cond (.tmp 86) .skip (.exit 6)
def c9_80 : Code := .seq (codeN b9 2214271) c9_82
def r9_88 : Array Oper := regOps (codeN (codeOf Try.f9) 9030015)
def c9_88 : Code := .region 24 r9_88 true
def q9_88 : List (Oper × Fl) := [(mv 89 6 51, ⟨true, false, true, false, false, false, true, true, false, false, []⟩),
 (mv 90 13 3, ⟨true, false, true, false, false, false, true, true, false, false, []⟩),
 (ixa 91 51 89 90 0, ⟨true, false, true, false, false, false, true, true, false, false, []⟩),
 (ld 92 49 91 49, ⟨true, false, true, false, false, false, true, true, false, false, []⟩),
 (mv 93 6 51, ⟨true, false, true, false, false, false, true, true, false, false, []⟩),
 (mv 94 13 3, ⟨true, false, true, false, false, false, true, true, false, false, []⟩),
 (op1 95 (.binOp .add 3 (.tmp 94) (.const (.int .i64 1)) 3) 3, ⟨true, false, true, false, false, false, true, true, false, false, []⟩),
 (ixa 96 51 93 95 0, ⟨true, false, true, false, false, false, true, true, false, false, []⟩),
 (ld 97 49 96 49, ⟨true, false, true, false, false, false, true, true, false, false, []⟩),
 (cal 98 43 [(.tmp 92), (.tmp 97)] [49, 49] 4, ⟨true, true, true, false, true, true, true, true, false, false, []⟩),
 (mv 99 98 4, ⟨true, false, true, false, true, false, true, true, false, false, []⟩),
 (mk (some 100) (.move (.tmp 6)) 51 (some (10, true)), ⟨true, false, true, false, false, false, true, true, false, false, []⟩),
 (mk (some 101) (.move (.tmp 13)) 3 (some (10, true)), ⟨true, false, true, false, false, false, true, true, false, false, []⟩),
 (mk (some 102) (.binOp .add 3 (.tmp 101) (.const (.int .i64 1)) 3) 3 (some (10, true)), ⟨true, false, true, false, false, false, true, true, false, false, []⟩),
 (mk (some 103) (.indexAddr 51 (.tmp 100) (.tmp 102)) 0 (some (10, true)), ⟨true, false, true, false, false, false, true, true, false, false, []⟩),
 (mk (some 104) (.load 49 (.tmp 103)) 49 (some (10, true)), ⟨true, false, true, false, false, false, true, true, false, false, []⟩),
 (mk (some 105) (.move (.tmp 12)) 50 (some (10, true)), ⟨true, false, true, false, true, false, true, true, false, false, []⟩),
 (mk (some 106) (.call { callee := (.value (.func 39)), args := #[(.tmp 104), (.tmp 105)], argTypes := #[49, 50] }) 4 (some (10, true)), ⟨true, true, true, false, true, true, true, true, false, false, []⟩),
 (op1 107 (.pick (.tmp 99) (.tmp 106) (.const (.bool false))) 4, ⟨true, false, true, false, true, false, true, true, false, false, []⟩),
 (mv 108 107 4, ⟨true, false, true, false, true, false, true, true, false, false, []⟩),
 (mk (some 109) (.move (.tmp 6)) 51 (some (19, true)), ⟨true, false, true, false, false, false, true, true, false, false, []⟩),
 (mk (some 110) (.move (.tmp 13)) 3 (some (19, true)), ⟨true, false, true, false, false, false, true, true, false, false, []⟩),
 (mk (some 111) (.indexAddr 51 (.tmp 109) (.tmp 110)) 0 (some (19, true)), ⟨true, false, true, false, false, false, true, true, false, false, []⟩),
 (mk (some 112) (.load 49 (.tmp 111)) 49 (some (19, true)), ⟨true, false, true, false, false, false, true, true, false, false, []⟩),
 (mk (some 113) (.move (.tmp 12)) 50 (some (19, true)), ⟨true, false, true, false, true, false, true, true, false, false, []⟩),
 (mk (some 114) (.call { callee := (.value (.func 39)), args := #[(.tmp 112), (.tmp 113)], argTypes := #[49, 50] }) 4 (some (19, true)), ⟨true, true, true, false, true, true, true, true, false, false, []⟩),
 (mk (some 115) (.unOp .not 4 (.tmp 114)) 4 (some (19, true)), ⟨true, false, true, false, true, false, true, true, false, false, []⟩),
 (op1 116 (.pick (.tmp 108) (.tmp 115) (.const (.bool false))) 4, ⟨true, false, true, false, true, false, true, true, false, false, []⟩)]
def c9_90 : Code := .seq (codeN b9 38390143) .ret
def c9_89 : Code := .cond (.tmp 116) c9_90 .skip
def c9_87 : Code := .seq c9_88 c9_89
def c9_94 : Code := codeN b9 3787135
def c9_85 : Code := .seq (.block 7 c9_87) c9_94
def c9_79 : Code := .seq c9_80 c9_85
def c9_78 : Code := .loop c9_79
def c9_77 : Code := .block 6 c9_78
def c9_75 : Code := .seq (codeN b9 182655) c9_77
def c9_67 : Code := .seq c9_68 c9_75
def c9_65 : Code := .seq (codeN b9 35199) c9_67
def c9_95 : Code := codeN b9 14719
theorem e9_95 : evK gS fi9 c9_95 fr st k = opsR gS fi9 [mv 71 11 3,
 op1 72 (.binOp .add 3 (.tmp 71) (.const (.int .i64 1)) 3) 3,
 asn 11 72 3] fr st k := evK_r 17 (by kernel_rfl)
def c9_63 : Code := .seq (.block 5 c9_65) c9_95
def c9_57 : Code := .seq c9_58 c9_63
def c9_56 : Code := .loop c9_57
def c9_55 : Code := .block 4 c9_56
def c9_53 : Code := .seq (codeN b9 639) c9_55
def c9_96 : Code := .seq (codeN b9 767) .ret
def c9_52 : Code := .seq c9_53 c9_96
def c9_50 : Code := .seq (codeN b9 191) c9_52
theorem e9_50 : evK gS fi9 c9_50 fr st k = opsR gS fi9 [mv 66 1 28,
 op1 67 (.build 31 #[(0, (.tmp 66))]) 31,
 op1 68 (.box 31 (.tmp 67)) 29,
 asn 10 68 29] fr st (.seq c9_52 k) := evK_rs 14 rfl (by kernel_rfl)
def c9_16 : Code := .seq c9_17 c9_50
def c9_8 : Code := .seq c9_9 c9_16
def c9_6 : Code := .seq (codeN b9 23) c9_8
def c9_4 : Code := .seq (codeN b9 11) c9_6
def c9_2 : Code := .seq (codeN b9 5) c9_4
def c9_0 : Code := .seq (codeN b9 2) c9_2
theorem E9 : evK gS fi9 c9_12 fr st k = opsR gS fi9 [op1 4 (.assign (.const (.bool false))) 4] fr st (.seq .ret k) ∧
 evK gS fi9 c9_11 fr st k = condK gS fi9 (fr.op (.tmp 39)).bool? c9_12 .skip fr st k ∧
 (evK gS fi9 c9_9 fr st k = opsR gS fi9 [cal 21 46 [] [] 4,
 op1 22 (.unOp .not 4 (.tmp 21)) 4,
 mv 23 22 4,
 mk (some 24) (.move (.tmp 7)) 51 (some (2, false)),
 mk (some 25) (.call { callee := (.builtin .len), args := #[(.tmp 24)], argTypes := #[51] }) 3 (some (2, false)),
 mk (some 26) (.move (.tmp 6)) 51 (some (2, false)),
 mk (some 27) (.call { callee := (.builtin .len), args := #[(.tmp 26)], argTypes := #[51] }) 3 (some (2, false)),
 mk (some 28) (.binOp .gtr 3 (.tmp 25) (.tmp 27) 3) 4 (some (2, false)),
 op1 29 (.pick (.tmp 23) (.const (.bool true)) (.tmp 28)) 4,
 mv 30 29 4,
 mk (some 31) (.move (.tmp 6)) 51 (some (9, false)),
 mk (some 32) (.call { callee := (.builtin .len), args := #[(.tmp 31)], argTypes := #[51] }) 3 (some (9, false)),
 mk (some 33) (.binOp .gtr 3 (.tmp 32) (.const (.int .i64 0)) 3) 4 (some (9, false)),
 mk (some 34) (.move (.tmp 33)) 4 (some (9, false)),
 mk (some 35) (.move (.tmp 7)) 51 (some (13, true)),
 mk (some 36) (.call { callee := (.builtin .len), args := #[(.tmp 35)], argTypes := #[51] }) 3 (some (13, true)),
 mk (some 37) (.binOp .eql 3 (.tmp 36) (.const (.int .i64 0)) 3) 4 (some (13, true)),
 mk (some 38) (.pick (.tmp 34) (.tmp 37) (.const (.bool false))) 4 (some (9, false)),
 op1 39 (.pick (.tmp 30) (.const (.bool true)) (.tmp 38)) 4] fr st (.seq c9_11 k)) ∧
 evK gS fi9 c9_24 fr st k = condK gS fi9 (fr.op (.tmp 43)).bool? .skip (.exit 0) fr st k ∧
 (evK gS fi9 c9_22 fr st k = opsR gS fi9 [mv 40 8 3,
 mv 41 7 51,
 len1 42 41 51 3,
 bop 43 .lss 3 40 42 3 4] fr st (.seq c9_24 k)) ∧
 evK gS fi9 c9_36 fr st k = condK gS fi9 (fr.op (.tmp 49)).bool? .skip (.exit 2) fr st k ∧
 (evK gS fi9 c9_34 fr st k = opsR gS fi9 [mv 46 9 3,
 mv 47 7 51,
 len1 48 47 51 3,
 bop 49 .lss 3 46 48 3 4] fr st (.seq c9_36 k)) ∧
 evK gS fi9 c9_42 fr st k = drwR gS fi9 r9_42 q9_42 fr st k ∧
 evK gS fi9 c9_44 fr st k = opsR gS fi9 [op1 4 (.assign (.const (.bool false))) 4] fr st (.seq .ret k) ∧
 evK gS fi9 c9_43 fr st k = condK gS fi9 (fr.op (.tmp 65)).bool? c9_44 .skip fr st k ∧
 evK gS fi9 c9_41 fr st k = evK gS fi9 c9_42 fr st (.seq c9_43 k) ∧
 (evK gS fi9 c9_48 fr st k = opsR gS fi9 [mv 50 9 3,
 op1 51 (.binOp .add 3 (.tmp 50) (.const (.int .i64 1)) 3) 3,
 asn 9 51 3] fr st k) ∧
 evK gS fi9 c9_39 fr st k = evK gS fi9 c9_41 fr st (.blk 3 (.seq c9_48 k)) ∧
 evK gS fi9 c9_33 fr st k = evK gS fi9 c9_34 fr st (.seq c9_39 k) ∧
 evK gS fi9 c9_31 fr st k = evK gS fi9 c9_32 fr st (.blk 2 k) ∧
 evK gS fi9 c9_29 fr st k = opsR gS fi9 [op1 9 (.assign (.const (.int .i64 0))) 3] fr st (.seq c9_31 k) ∧
 evK gS fi9 c9_27 fr st k = evK gS fi9 c9_29 fr st (.blk 1 (.seq c9_49 k)) ∧
 evK gS fi9 c9_21 fr st k = evK gS fi9 c9_22 fr st (.seq c9_27 k) ∧
 evK gS fi9 c9_19 fr st k = evK gS fi9 c9_20 fr st (.blk 0 k) ∧
 evK gS fi9 c9_17 fr st k = opsR gS fi9 [op1 8 (.assign (.const (.int .i64 0))) 3] fr st (.seq c9_19 k) ∧
 evK gS fi9 c9_60 fr st k = condK gS fi9 (fr.op (.tmp 70)).bool? .skip (.exit 4) fr st k ∧
 (evK gS fi9 c9_58 fr st k = opsR gS fi9 [mv 69 11 3,
 op1 70 (.binOp .lss 3 (.tmp 69) (.const (.int .i64 8)) 3) 4] fr st (.seq c9_60 k)) ∧
 evK gS fi9 c9_71 fr st k = opsR gS fi9 [op1 4 (.assign (.const (.bool false))) 4] fr st (.seq .ret k) ∧
 evK gS fi9 c9_70 fr st k = condK gS fi9 (fr.op (.tmp 81)).bool? c9_71 .skip fr st k ∧
 (evK gS fi9 c9_68 fr st k = opsR gS fi9 [mv 75 6 51,
 mv 76 12 50,
 cal 77 47 [(.tmp 75), (.tmp 76)] [51, 50] 4,
 mv 78 7 51,
 mv 79 12 50,
 cal 80 47 [(.tmp 78), (.tmp 79)] [51, 50] 4,
 bop 81 .neq 4 77 80 4 4] fr st (.seq c9_70 k)) ∧
 evK gS fi9 c9_82 fr st k = condK gS fi9 (fr.op (.tmp 86)).bool? .skip (.exit 6) fr st k ∧
 (evK gS fi9 c9_80 fr st k = opsR gS fi9 [mv 82 13 3,
 op1 83 (.binOp .add 3 (.tmp 82) (.const (.int .i64 1)) 3) 3,
 mv 84 6 51,
 len1 85 84 51 3,
 bop 86 .lss 3 83 85 3 4] fr st (.seq c9_82 k)) ∧
 evK gS fi9 c9_88 fr st k = drwR gS fi9 r9_88 q9_88 fr st k ∧
 evK gS fi9 c9_90 fr st k = opsR gS fi9 [op1 4 (.assign (.const (.bool false))) 4] fr st (.seq .ret k) ∧
 evK gS fi9 c9_89 fr st k = condK gS fi9 (fr.op (.tmp 116)).bool? c9_90 .skip fr st k ∧
 evK gS fi9 c9_87 fr st k = evK gS fi9 c9_88 fr st (.seq c9_89 k) ∧
 (evK gS fi9 c9_94 fr st k = opsR gS fi9 [mv 87 13 3,
 op1 88 (.binOp .add 3 (.tmp 87) (.const (.int .i64 1)) 3) 3,
 asn 13 88 3] fr st k) ∧
 evK gS fi9 c9_85 fr st k = evK gS fi9 c9_87 fr st (.blk 7 (.seq c9_94 k)) ∧
 evK gS fi9 c9_79 fr st k = evK gS fi9 c9_80 fr st (.seq c9_85 k) ∧
 evK gS fi9 c9_77 fr st k = evK gS fi9 c9_78 fr st (.blk 6 k) ∧
 evK gS fi9 c9_75 fr st k = opsR gS fi9 [op1 13 (.assign (.const (.int .i64 0))) 3] fr st (.seq c9_77 k) ∧
 evK gS fi9 c9_67 fr st k = evK gS fi9 c9_68 fr st (.seq c9_75 k) ∧
 (evK gS fi9 c9_65 fr st k = opsR gS fi9 [mv 73 10 29,
 cal 74 36 [(.tmp 73)] [29] 50,
 asn 12 74 50] fr st (.seq c9_67 k)) ∧
 evK gS fi9 c9_63 fr st k = evK gS fi9 c9_65 fr st (.blk 5 (.seq c9_95 k)) ∧
 evK gS fi9 c9_57 fr st k = evK gS fi9 c9_58 fr st (.seq c9_63 k) ∧
 evK gS fi9 c9_55 fr st k = evK gS fi9 c9_56 fr st (.blk 4 k) ∧
 evK gS fi9 c9_53 fr st k = opsR gS fi9 [op1 11 (.assign (.const (.int .i64 0))) 3] fr st (.seq c9_55 k) ∧
 evK gS fi9 c9_96 fr st k = opsR gS fi9 [op1 4 (.assign (.const (.bool true))) 4] fr st (.seq .ret k) ∧
 evK gS fi9 c9_52 fr st k = evK gS fi9 c9_53 fr st (.seq c9_96 k) ∧
 evK gS fi9 c9_16 fr st k = evK gS fi9 c9_17 fr st (.seq c9_50 k) ∧
 evK gS fi9 c9_8 fr st k = evK gS fi9 c9_9 fr st (.seq c9_16 k) ∧
 (evK gS fi9 c9_6 fr st k = opsR gS fi9 [mv 19 6 51,
 cal 20 49 [(.tmp 19)] [51] 51,
 asn 7 20 51] fr st (.seq c9_8 k)) ∧
 (evK gS fi9 c9_4 fr st k = opsR gS fi9 [mv 17 5 29,
 cal 18 34 [(.tmp 17), (.const (.slice none 0 0)), (.const (.int .i64 7))] [29, 49, 3] 51,
 asn 6 18 51] fr st (.seq c9_6 k)) ∧
 (evK gS fi9 c9_2 fr st k = opsR gS fi9 [mv 14 0 28,
 op1 15 (.build 31 #[(0, (.tmp 14))]) 31,
 op1 16 (.box 31 (.tmp 15)) 29,
 asn 5 16 29] fr st (.seq c9_4 k)) ∧
 evK gS fi9 c9_0 fr st k = opsR gS fi9 [op1 4 (.assign (.const (.bool false))) 4] fr st (.seq c9_2 k) := ⟨evK_rs 5 rfl (by kernel_rfl), rfl, evK_rs 4 rfl (by kernel_rfl), rfl, evK_rs 7 rfl (by kernel_rfl), rfl, evK_rs 10 rfl (by kernel_rfl), evK_dr 12 rfl (by kernel_rfl) (by kernel_rfl), evK_rs 13 rfl (by kernel_rfl), rfl, rfl, evK_r 11 (by kernel_rfl), rfl, rfl, rfl, evK_rs 9 rfl (by kernel_rfl), rfl, rfl, rfl, evK_rs 6 rfl (by kernel_rfl), rfl, evK_rs 16 rfl (by kernel_rfl), evK_rs 20 rfl (by kernel_rfl), rfl, evK_rs 19 rfl (by kernel_rfl), rfl, evK_rs 22 rfl (by kernel_rfl), evK_dr 24 rfl (by kernel_rfl) (by kernel_rfl), evK_rs 25 rfl (by kernel_rfl), rfl, rfl, evK_r 23 (by kernel_rfl), rfl, rfl, rfl, evK_rs 21 rfl (by kernel_rfl), rfl, evK_rs 18 rfl (by kernel_rfl), rfl, rfl, rfl, evK_rs 15 rfl (by kernel_rfl), evK_rs 26 rfl (by kernel_rfl), rfl, rfl, rfl, evK_rs 3 rfl (by kernel_rfl), evK_rs 2 rfl (by kernel_rfl), evK_rs 1 rfl (by kernel_rfl), evK_rs 0 rfl (by kernel_rfl)⟩
theorem m9 : mini fi9.body = c9_0 := by kernel_rfl
theorem n9_32 (fr : Fr) (st : St) (k : Kt) : nextK gS fi9 (.loop c9_33 k) .normal fr st = evK gS fi9 c9_32 fr st k := rfl
theorem n9_20 (fr : Fr) (st : St) (k : Kt) : nextK gS fi9 (.loop c9_21 k) .normal fr st = evK gS fi9 c9_20 fr st k := rfl
theorem n9_78 (fr : Fr) (st : St) (k : Kt) : nextK gS fi9 (.loop c9_79 k) .normal fr st = evK gS fi9 c9_78 fr st k := rfl
theorem n9_56 (fr : Fr) (st : St) (k : Kt) : nextK gS fi9 (.loop c9_57 k) .normal fr st = evK gS fi9 c9_56 fr st k := rfl
theorem bq1 : borOk r9_88 0 6 89 = false := by kernel_rfl
theorem bq2 : borOk r9_88 4 6 93 = false := by kernel_rfl
theorem bq3 : borOk r9_88 11 6 100 = false := by kernel_rfl
theorem bq4 : borOk r9_88 20 6 109 = false := by kernel_rfl
theorem frow_eq (l : List (List Pred)) : freduce l = l.foldl fstep [] := rfl
set_option maxHeartbeats 8000000 in
theorem L9_32 (all row : List (List Pred)) (ha1 : ∀ f ∈ all, POk f) (ha2 : all.length < 1000000) (hr1 : ∀ f ∈ row, POk f) (hr2 : row.length < 1000000) (ko : Nat) (hko : ko = 0 ∧ all = [] ∨ ko = 1) (l1 l2 : List Int) (e5 : E) (h5 : e5.Tame) (R : Out × St) (hap : ∀ (i k : Nat) (a b : List Pred), row[i]? = some a → row[k]? = some b → i ≠ k → fcovers a b = false) (i : Nat) (hi : i < row.length) (S : St) (e10 e11 e12 e13 : E) (h10 : e10.Tame) (h11 : e11.Tame) (h12 : e12.Tame) (h13 : e13.Tame) (X : List (Nat × List V))
    (H : ∀ T, evK gS fi9 c9_49 { ps := [(0, .val (.slice (intVs l1))), (1, .val (.slice (intVs l2))), (4, .val (.bool false)), (5, e5), (6, .own ko (encPredss all)), (7, .val (.slice (encPredss row))), (8, .val (.int .i64 i)), (9, .val (.int .i64 row.length)), (10, e10), (11, e11), (12, e12), (13, e13)], ts := T, lc := X } S (.loop c9_21 (.blk 0 (.seq c9_50 .nil))) = some R) :
    ∀ (n k : Nat) (T : List (Nat × E)), k ≤ row.length → row.length - k = n →
    evK gS fi9 c9_32 { ps := [(0, .val (.slice (intVs l1))), (1, .val (.slice (intVs l2))), (4, .val (.bool false)), (5, e5), (6, .own ko (encPredss all)), (7, .val (.slice (encPredss row))), (8, .val (.int .i64 i)), (9, .val (.int .i64 k)), (10, e10), (11, e11), (12, e12), (13, e13)], ts := T, lc := X } S (.blk 2 (.blk 1 (.seq c9_49 (.loop c9_21 (.blk 0 (.seq c9_50 .nil)))))) = some R := by
  intro n
  have hm : fi9.marks = [] := rfl
  have hl : fi9.locals = [] := rfl
  have hr : fi9.results = [.tmp 4] := rfl
  obtain ⟨x, hx⟩ : ∃ x, row[i]? = some x := ⟨row[i]'(by omega), List.getElem?_eq_getElem (by omega)⟩
  have hlt : (i : Int) < (row.length : Int) := by omega
  obtain ⟨hlu, hxe⟩ := List.getElem?_eq_some_iff.1 hx
  have hxo := hr1 x (List.mem_of_getElem? hx)
  induction n with
  | zero =>
    intro k T hk hn
    obtain rfl : k = row.length := by omega
    refine evK_loop c9_33 _ _ _ _ rfl ?_
    simp [h5, h10, h11, h12, h13, H, -Int.not_le, -Int.not_lt, -Nat.not_le, -Nat.not_lt, ty3, ty4, ty28, ty29, ty31, ty49, ty50, ty51, hm, hl, hr, fi34_eq, fi36_eq, x39, fi39_eq, p39, x43, fi43_eq, p43, k46, x46, fi46_eq, p46, x47, fi47_eq, p47, fi49_eq, E9, q9_42, q9_88, e9_95, e9_50, n9_32, n9_20, n9_78, n9_56]
  | succ n ih =>
    intro k T hk hn
    obtain ⟨y, hx2⟩ : ∃ x, row[k]? = some x := ⟨row[k]'(by omega), List.getElem?_eq_getElem (by omega)⟩
    have hlt2 : (k : Int) < (row.length : Int) := by omega
    obtain ⟨hlu2, hxe2⟩ := List.getElem?_eq_some_iff.1 hx2
    have hw2 : IntKind.wrap .i64 ((k : Int) + 1) = ((k + 1 : Nat) : Int) := by rw [wrap64 (by omega) (by omega)]; omega
    have hyo := hr1 y (List.mem_of_getElem? hx2)
    have IH := fun T => ih (k + 1) T (by omega) (by omega)
    refine evK_loop c9_33 _ _ _ _ rfl ?_
    by_cases hik : i = k
    · subst hik
      simp [-Int.natCast_add, h5, h10, h11, h12, h13, hlt2, hlu2, hw2, hx2, hxe2, IH, -Int.not_le, -Int.not_lt, -Nat.not_le, -Nat.not_lt, ty3, ty4, ty28, ty29, ty31, ty49, ty50, ty51, hm, hl, hr, fi34_eq, fi36_eq, x39, fi39_eq, p39, x43, fi43_eq, p43, k46, x46, fi46_eq, p46, x47, fi47_eq, p47, fi49_eq, E9, q9_42, q9_88, e9_95, e9_50, n9_32, n9_20, n9_78, n9_56]
    · have hik2 : ¬ (i : Int) = (k : Int) := by omega
      have hc := hap i k x y hx hx2 hik
      have k1 : ∀ (fr : Fr) (st : St), callStep gS (EvF gS) 43 [.slice (encPreds x), .slice (encPreds y)] fr st = some (.ok (.val (.bool false)) fr st) := fun fr st => by rw [k43 x y hxo hyo fr st, hc]; rfl
      simp [-Int.natCast_add, h5, h10, h11, h12, h13, hlt, hlu, hxe, hx, hlt2, hlu2, hw2, hx2, hxe2, hik, hik2, k1, IH, -Int.not_le, -Int.not_lt, -Nat.not_le, -Nat.not_lt, ty3, ty4, ty28, ty29, ty31, ty49, ty50, ty51, hm, hl, hr, fi34_eq, fi36_eq, x39, fi39_eq, p39, x43, fi43_eq, p43, k46, x46, fi46_eq, p46, x47, fi47_eq, p47, fi49_eq, E9, q9_42, q9_88, e9_95, e9_50, n9_32, n9_20, n9_78, n9_56]
set_option maxHeartbeats 8000000 in
theorem L9_20 (all row : List (List Pred)) (ha1 : ∀ f ∈ all, POk f) (ha2 : all.length < 1000000) (hr1 : ∀ f ∈ row, POk f) (hr2 : row.length < 1000000) (ko : Nat) (hko : ko = 0 ∧ all = [] ∨ ko = 1) (l1 l2 : List Int) (e5 : E) (h5 : e5.Tame) (R : Out × St) (hap : ∀ (i k : Nat) (a b : List Pred), row[i]? = some a → row[k]? = some b → i ≠ k → fcovers a b = false) (S : St) (e10 e11 e12 e13 : E) (h10 : e10.Tame) (h11 : e11.Tame) (h12 : e12.Tame) (h13 : e13.Tame) (X : List (Nat × List V))
    (H : ∀ e8 e9 T (h8 : e8.Tame) (h9 : e9.Tame), evK gS fi9 c9_50 { ps := [(0, .val (.slice (intVs l1))), (1, .val (.slice (intVs l2))), (4, .val (.bool false)), (5, e5), (6, .own ko (encPredss all)), (7, .val (.slice (encPredss row))), (8, e8), (9, e9), (10, e10), (11, e11), (12, e12), (13, e13)], ts := T, lc := X } S .nil = some R) :
    ∀ (n i : Nat) (e9 : E) (h9 : e9.Tame) (T : List (Nat × E)), i ≤ row.length → row.length - i = n →
    evK gS fi9 c9_20 { ps := [(0, .val (.slice (intVs l1))), (1, .val (.slice (intVs l2))), (4, .val (.bool false)), (5, e5), (6, .own ko (encPredss all)), (7, .val (.slice (encPredss row))), (8, .val (.int .i64 i)), (9, e9), (10, e10), (11, e11), (12, e12), (13, e13)], ts := T, lc := X } S (.blk 0 (.seq c9_50 .nil)) = some R := by
  intro n
  have hm : fi9.marks = [] := rfl
  have hl : fi9.locals = [] := rfl
  have hr : fi9.results = [.tmp 4] := rfl
  induction n with
  | zero =>
    intro i e9 h9 T hi hn
    obtain rfl : i = row.length := by omega
    refine evK_loop c9_21 _ _ _ _ rfl ?_
    have HH := fun T => H (.val (.int .i64 row.length)) e9 T rfl h9
    simp [h5, h9, h10, h11, h12, h13, HH, -Int.not_le, -Int.not_lt, -Nat.not_le, -Nat.not_lt, ty3, ty4, ty28, ty29, ty31, ty49, ty50, ty51, hm, hl, hr, fi34_eq, fi36_eq, x39, fi39_eq, p39, x43, fi43_eq, p43, k46, x46, fi46_eq, p46, x47, fi47_eq, p47, fi49_eq, E9, q9_42, e9_49, q9_88, e9_95, n9_32, n9_20, n9_78, n9_56]
  | succ n ih =>
    intro i e9 h9 T hi hn
    have hlt : (i : Int) < (row.length : Int) := by omega
    have hw : IntKind.wrap .i64 ((i : Int) + 1) = ((i + 1 : Nat) : Int) := by rw [wrap64 (by omega) (by omega)]; omega
    have IH := fun e9 h9 T => ih (i + 1) e9 h9 T (by omega) (by omega)
    have H49 : ∀ T, evK gS fi9 c9_49 { ps := [(0, .val (.slice (intVs l1))), (1, .val (.slice (intVs l2))), (4, .val (.bool false)), (5, e5), (6, .own ko (encPredss all)), (7, .val (.slice (encPredss row))), (8, .val (.int .i64 i)), (9, .val (.int .i64 row.length)), (10, e10), (11, e11), (12, e12), (13, e13)], ts := T, lc := X } S (.loop c9_21 (.blk 0 (.seq c9_50 .nil))) = some R := by
      intro T
      simp [-Int.natCast_add, h5, h10, h11, h12, h13, hw, IH, -Int.not_le, -Int.not_lt, -Nat.not_le, -Nat.not_lt, ty3, ty4, ty28, ty29, ty31, ty49, ty50, ty51, hm, hl, hr, fi34_eq, fi36_eq, x39, fi39_eq, p39, x43, fi43_eq, p43, k46, x46, fi46_eq, p46, x47, fi47_eq, p47, fi49_eq, E9, q9_42, e9_49, q9_88, e9_95, n9_32, n9_20, n9_78, n9_56]
    have LL := fun T => L9_32 all row ha1 ha2 hr1 hr2 ko hko l1 l2 e5 h5 R hap i (by omega) S e10 e11 e12 e13 h10 h11 h12 h13 X H49 row.length 0 T (Nat.zero_le _) rfl
    rw [show ((0 : Nat) : Int) = 0 from rfl] at LL
    refine evK_loop c9_21 _ _ _ _ rfl ?_
    simp [-Int.natCast_add, h5, h9, h10, h11, h12, h13, hlt, LL, -Int.not_le, -Int.not_lt, -Nat.not_le, -Nat.not_lt, ty3, ty4, ty28, ty29, ty31, ty49, ty50, ty51, hm, hl, hr, fi34_eq, fi36_eq, x39, fi39_eq, p39, x43, fi43_eq, p43, k46, x46, fi46_eq, p46, x47, fi47_eq, p47, fi49_eq, E9, q9_42, e9_49, q9_88, e9_95, n9_32, n9_20, n9_78, n9_56]
/-- Where a feed stands behind so many rows of attributes. -/
def attrsJ (l : List Int) : Nat → Nat → Nat
  | 0, j => j
  | r + 1, j => attrsJ l r (attrsV l 0 j).2
set_option maxHeartbeats 8000000 in
theorem L9_78 (all row : List (List Pred)) (ha1 : ∀ f ∈ all, POk f) (ha2 : all.length < 1000000) (hr1 : ∀ f ∈ row, POk f) (hr2 : row.length < 1000000) (ko : Nat) (hko : ko = 0 ∧ all = [] ∨ ko = 1) (l1 l2 : List Int) (e5 : E) (h5 : e5.Tame) (R : Out × St) (A : List Attr) (hA : A.length < 4611686018427387904) (hcs : ∀ x ∈ all, ∀ y ∈ all, fcovers x y = true → ftakes y A = true → ftakes x A = true) (S : St) (e8 e9 e10 e11 : E) (h8 : e8.Tame) (h9 : e9.Tame) (h10 : e10.Tame) (h11 : e11.Tame) (X : List (Nat × List V))
    (H : ∀ e13 T (h13 : e13.Tame), evK gS fi9 c9_95 { ps := [(0, .val (.slice (intVs l1))), (1, .val (.slice (intVs l2))), (4, .val (.bool false)), (5, e5), (6, .own ko (encPredss all)), (7, .val (.slice (encPredss row))), (8, e8), (9, e9), (10, e10), (11, e11), (12, .val (.slice (encAttrs A))), (13, e13)], ts := T, lc := X } S (.loop c9_57 (.blk 4 (.seq c9_96 .nil))) = some R) :
    ∀ (n i : Nat) (T : List (Nat × E)), i ≤ all.length → all.length - (i + 1) = n →
    evK gS fi9 c9_78 { ps := [(0, .val (.slice (intVs l1))), (1, .val (.slice (intVs l2))), (4, .val (.bool false)), (5, e5), (6, .own ko (encPredss all)), (7, .val (.slice (encPredss row))), (8, e8), (9, e9), (10, e10), (11, e11), (12, .val (.slice (encAttrs A))), (13, .val (.int .i64 i))], ts := T, lc := X } S (.blk 6 (.blk 5 (.seq c9_95 (.loop c9_57 (.blk 4 (.seq c9_96 .nil)))))) = some R := by
  intro n
  have hm : fi9.marks = [] := rfl
  have hl : fi9.locals = [] := rfl
  have hr : fi9.results = [.tmp 4] := rfl
  induction n with
  | zero =>
    intro i T hi hn
    have hlt : ¬ (((i + 1 : Nat) : Int) < (all.length : Int)) := by omega
    have hw : IntKind.wrap .i64 ((i : Int) + 1) = ((i + 1 : Nat) : Int) := by rw [wrap64 (by omega) (by omega)]; omega
    have HH := fun T => H (.val (.int .i64 i)) T rfl
    refine evK_loop c9_79 _ _ _ _ rfl ?_
    rcases hko with ⟨rfl, rfl⟩ | rfl
    · have en : encPredss [] = [] := rfl
      rw [en] at HH ⊢
      have hlt2 : ¬ (((i + 1 : Nat) : Int) < 0) := by omega
      simp [-Int.natCast_add, h5, h8, h9, h10, h11, hw, hlt2, HH, -Int.not_le, -Int.not_lt, -Nat.not_le, -Nat.not_lt, ty3, ty4, ty28, ty29, ty31, ty49, ty50, ty51, hm, hl, hr, fi34_eq, fi36_eq, x39, fi39_eq, p39, x43, fi43_eq, p43, k46, x46, fi46_eq, p46, x47, fi47_eq, p47, fi49_eq, E9, q9_42, e9_49, q9_88, e9_50, n9_32, n9_20, n9_78, n9_56, bq1, bq2, bq3, bq4]
    · simp [-Int.natCast_add, h5, h8, h9, h10, h11, hlt, hw, HH, -Int.not_le, -Int.not_lt, -Nat.not_le, -Nat.not_lt, ty3, ty4, ty28, ty29, ty31, ty49, ty50, ty51, hm, hl, hr, fi34_eq, fi36_eq, x39, fi39_eq, p39, x43, fi43_eq, p43, k46, x46, fi46_eq, p46, x47, fi47_eq, p47, fi49_eq, E9, q9_42, e9_49, q9_88, e9_50, n9_32, n9_20, n9_78, n9_56, bq1, bq2, bq3, bq4]
  | succ n ih =>
    intro i T hi hn
    obtain rfl : ko = 1 := by
      rcases hko with ⟨_, rfl⟩ | h
      · simp at hn
      · exact h
    obtain ⟨x, hx⟩ : ∃ x, all[i]? = some x := ⟨all[i]'(by omega), List.getElem?_eq_getElem (by omega)⟩
    obtain ⟨y, hy⟩ : ∃ y, all[i + 1]? = some y := ⟨all[i + 1]'(by omega), List.getElem?_eq_getElem (by omega)⟩
    have hlt : (i : Int) < (all.length : Int) := by omega
    have hlt2 : ((i + 1 : Nat) : Int) < (all.length : Int) := by omega
    obtain ⟨hlu, hxe⟩ := List.getElem?_eq_some_iff.1 hx
    obtain ⟨hlu2, hye⟩ := List.getElem?_eq_some_iff.1 hy
    have hw : IntKind.wrap .i64 ((i : Int) + 1) = ((i + 1 : Nat) : Int) := by rw [wrap64 (by omega) (by omega)]; omega
    have hxm := List.mem_of_getElem? hx
    have hym := List.mem_of_getElem? hy
    have hxo := ha1 x hxm
    have hyo := ha1 y hym
    have hcc := hcs x hxm y hym
    have k1 : ∀ (fr : Fr) (st : St), callStep gS (EvF gS) 43 [.slice (encPreds x), .slice (encPreds y)] fr st = some (.ok (.val (.bool (fcovers x y))) fr st) := fun fr st => k43 x y hxo hyo fr st
    have k2 : ∀ (fr : Fr) (st : St), callStep gS (EvF gS) 39 [.slice (encPreds y), .slice (encAttrs A)] fr st = some (.ok (.val (.bool (ftakes y A))) fr st) := fun fr st => k39 y A hyo hA fr st
    have k3 : ∀ (fr : Fr) (st : St), callStep gS (EvF gS) 39 [.slice (encPreds x), .slice (encAttrs A)] fr st = some (.ok (.val (.bool (ftakes x A))) fr st) := fun fr st => k39 x A hxo hA fr st
    have IH := fun T => ih (i + 1) T (by omega) (by omega)
    refine evK_loop c9_79 _ _ _ _ rfl ?_
    generalize fcovers x y = b1 at *
    generalize hb2 : ftakes y A = b2 at *
    generalize hb3 : ftakes x A = b3 at *
    cases b1 with
    | false => simp [-Int.natCast_add, h5, h8, h9, h10, h11, hlt, hlt2, hlu, hlu2, hx, hy, hxe, hye, hw, k1, IH, -Int.not_le, -Int.not_lt, -Nat.not_le, -Nat.not_lt, ty3, ty4, ty28, ty29, ty31, ty49, ty50, ty51, hm, hl, hr, fi34_eq, fi36_eq, x39, fi39_eq, p39, x43, fi43_eq, p43, k46, x46, fi46_eq, p46, x47, fi47_eq, p47, fi49_eq, E9, q9_42, e9_49, q9_88, e9_50, n9_32, n9_20, n9_78, n9_56, bq1, bq2, bq3, bq4]
    | true =>
      cases b2 with
      | false => simp [-Int.natCast_add, h5, h8, h9, h10, h11, hlt, hlt2, hlu, hlu2, hx, hy, hxe, hye, hw, k1, k2, IH, -Int.not_le, -Int.not_lt, -Nat.not_le, -Nat.not_lt, ty3, ty4, ty28, ty29, ty31, ty49, ty50, ty51, hm, hl, hr, fi34_eq, fi36_eq, x39, fi39_eq, p39, x43, fi43_eq, p43, k46, x46, fi46_eq, p46, x47, fi47_eq, p47, fi49_eq, E9, q9_42, e9_49, q9_88, e9_50, n9_32, n9_20, n9_78, n9_56, bq1, bq2, bq3, bq4]
      | true =>
        have := hcc rfl rfl
        subst this
        simp [-Int.natCast_add, h5, h8, h9, h10, h11, hlt, hlt2, hlu, hlu2, hx, hy, hxe, hye, hw, k1, k2, k3, IH, -Int.not_le, -Int.not_lt, -Nat.not_le, -Nat.not_lt, ty3, ty4, ty28, ty29, ty31, ty49, ty50, ty51, hm, hl, hr, fi34_eq, fi36_eq, x39, fi39_eq, p39, x43, fi43_eq, p43, k46, x46, fi46_eq, p46, x47, fi47_eq, p47, fi49_eq, E9, q9_42, e9_49, q9_88, e9_50, n9_32, n9_20, n9_78, n9_56, bq1, bq2, bq3, bq4]
set_option maxHeartbeats 8000000 in
theorem L9_56 (all row : List (List Pred)) (ha1 : ∀ f ∈ all, POk f) (ha2 : all.length < 1000000) (hr1 : ∀ f ∈ row, POk f) (hr2 : row.length < 1000000) (ko : Nat) (hko : ko = 0 ∧ all = [] ∨ ko = 1) (l1 l2 : List Int) (e5 : E) (h5 : e5.Tame) (S : St) (id : Nat) (hS : FeedOk S id)
    (hany : ∀ A, AFV A → fany all A = fany row A) (hcs : ∀ A, AFV A → ∀ x ∈ all, ∀ y ∈ all, fcovers x y = true → ftakes y A = true → ftakes x A = true) (X : List (Nat × List V)) :
    ∀ (r m j : Nat) (e8 e9 e12 e13 : E) (h8 : e8.Tame) (h9 : e9.Tame) (h12 : e12.Tame) (h13 : e13.Tame) (T : List (Nat × E)), m + r = 8 → j + 15 * r < 549755800000 →
    evK gS fi9 c9_56 { ps := [(0, .val (.slice (intVs l1))), (1, .val (.slice (intVs l2))), (4, .val (.bool false)), (5, e5), (6, .own ko (encPredss all)), (7, .val (.slice (encPredss row))), (8, e8), (9, e9), (10, .val (.ptr id 0)), (11, .val (.int .i64 m)), (12, e12), (13, e13)], ts := T, lc := X } (setF S id l2 (nA l2 0 j)) (.blk 4 (.seq c9_96 .nil)) = some (.ret (.bool true) none, setF S id l2 (nA l2 0 (attrsJ l2 r j))) := by
  intro r
  have hm : fi9.marks = [] := rfl
  have hl : fi9.locals = [] := rfl
  have hr : fi9.results = [.tmp 4] := rfl
  induction r with
  | zero =>
    intro m j e8 e9 e12 e13 h8 h9 h12 h13 T hm8 hj
    obtain rfl : m = 8 := by omega
    refine evK_loop c9_57 _ _ _ _ rfl ?_
    simp [-St.obj, -St.set, h5, h8, h9, h12, h13, attrsJ, -Int.not_le, -Int.not_lt, -Nat.not_le, -Nat.not_lt, ty3, ty4, ty28, ty29, ty31, ty49, ty50, ty51, hm, hl, hr, fi34_eq, fi36_eq, x39, fi39_eq, p39, x43, fi43_eq, p43, k46, x46, fi46_eq, p46, x47, fi47_eq, p47, fi49_eq, E9, q9_42, e9_49, q9_88, e9_95, e9_50, n9_32, n9_20, n9_78, n9_56]
  | succ r ih =>
    intro m j e8 e9 e12 e13 h8 h9 h12 h13 T hm8 hj
    have hk := fun fr => k36 l2 0 j id fr S hS (by omega) (by omega)
    have hav := attrsV_fv l2 0 j
    have hal := attrsV_len l2 0 j
    have haa := attrsV_asks l2 0 j
    rw [show attrsJ l2 (r + 1) j = attrsJ l2 r (attrsV l2 0 j).2 from rfl]
    generalize attrsV l2 0 j = P at *
    obtain ⟨A, J⟩ := P
    simp only at hk hav hal haa
    have hA : A.length < 4611686018427387904 := by omega
    have k1 : ∀ (fr : Fr) (st : St), callStep gS (EvF gS) 47 [.slice (encPredss all), .slice (encAttrs A)] fr st = some (.ok (.val (.bool (fany all A))) fr st) := fun fr st => k47 all A ha1 (by omega) hA fr st
    have k2 : ∀ (fr : Fr) (st : St), callStep gS (EvF gS) 47 [.slice (encPredss row), .slice (encAttrs A)] fr st = some (.ok (.val (.bool (fany all A))) fr st) := fun fr st => by rw [hany A hav]; exact k47 row A hr1 (by omega) hA fr st
    have hlt : (m : Int) < 8 := by omega
    have hw : IntKind.wrap .i64 ((m : Int) + 1) = ((m + 1 : Nat) : Int) := by rw [wrap64 (by omega) (by omega)]; omega
    have IH := fun e13 h13 T => ih (m + 1) J e8 e9 (.val (.slice (encAttrs A))) e13 h8 h9 rfl h13 T (by omega) (by omega)
    generalize hR : (Out.ret (V.bool true) none, setF S id l2 (nA l2 0 (attrsJ l2 r J))) = R at IH ⊢
    clear hR
    have H95 : ∀ e13 T (h13 : e13.Tame), evK gS fi9 c9_95 { ps := [(0, .val (.slice (intVs l1))), (1, .val (.slice (intVs l2))), (4, .val (.bool false)), (5, e5), (6, .own ko (encPredss all)), (7, .val (.slice (encPredss row))), (8, e8), (9, e9), (10, .val (.ptr id 0)), (11, .val (.int .i64 m)), (12, .val (.slice (encAttrs A))), (13, e13)], ts := T, lc := X } (setF S id l2 (nA l2 0 J)) (.loop c9_57 (.blk 4 (.seq c9_96 .nil))) = some R := by
      intro e13 T h13
      simp [-Int.natCast_add, -St.obj, -St.set, h5, h8, h9, h13, hw, IH, -Int.not_le, -Int.not_lt, -Nat.not_le, -Nat.not_lt, ty3, ty4, ty28, ty29, ty31, ty49, ty50, ty51, hm, hl, hr, fi34_eq, fi36_eq, x39, fi39_eq, p39, x43, fi43_eq, p43, k46, x46, fi46_eq, p46, x47, fi47_eq, p47, fi49_eq, E9, q9_42, e9_49, q9_88, e9_95, e9_50, n9_32, n9_20, n9_78, n9_56]
    have LL := fun T => L9_78 all row ha1 ha2 hr1 hr2 ko hko l1 l2 e5 h5 R A hA (hcs A hav) (setF S id l2 (nA l2 0 J)) e8 e9 (.val (.ptr id 0)) (.val (.int .i64 m)) h8 h9 rfl rfl X H95 _ 0 T (Nat.zero_le _) rfl
    rw [show ((0 : Nat) : Int) = 0 from rfl] at LL
    generalize fany all A = b1 at *
    refine evK_loop c9_57 _ _ _ _ rfl ?_
    rcases hko with ⟨rfl, rfl⟩ | rfl
    · have en : encPredss [] = [] := rfl
      rw [en] at k1 LL ⊢
      simp [-Int.natCast_add, -St.obj, -St.set, h5, h8, h9, h12, h13, hlt, hk, k1, k2, LL, -Int.not_le, -Int.not_lt, -Nat.not_le, -Nat.not_lt, ty3, ty4, ty28, ty29, ty31, ty49, ty50, ty51, hm, hl, hr, fi34_eq, fi36_eq, x39, fi39_eq, p39, x43, fi43_eq, p43, k46, x46, fi46_eq, p46, x47, fi47_eq, p47, fi49_eq, E9, q9_42, e9_49, q9_88, e9_95, e9_50, n9_32, n9_20, n9_78, n9_56]
    · simp [-Int.natCast_add, -St.obj, -St.set, h5, h8, h9, h12, h13, hlt, hk, k1, k2, LL, -Int.not_le, -Int.not_lt, -Nat.not_le, -Nat.not_lt, ty3, ty4, ty28, ty29, ty31, ty49, ty50, ty51, hm, hl, hr, fi34_eq, fi36_eq, x39, fi39_eq, p39, x43, fi43_eq, p43, k46, x46, fi46_eq, p46, x47, fi47_eq, p47, fi49_eq, E9, q9_42, e9_49, q9_88, e9_95, e9_50, n9_32, n9_20, n9_78, n9_56]
set_option maxHeartbeats 8000000 in
theorem c9 (l l2 : List Int) (st : St) (hst : st.wp ≤ st.objs.length) : ∃ st', EvF gS 9 [.slice (intVs l), .slice (intVs l2)] st = some (.ret (.bool true) none, st') := by
  have hm : fi9.marks = [] := rfl
  have hl : fi9.locals = [] := rfl
  have hr : fi9.results = [.tmp 4] := rfl
  have hf := feedOk_new hst
  have n1 := new_feed st l
  have k1 := fun fr => k34 [] (by simp) (by simp) l 0 0 st.objs.length 7 (by omega) (by omega) fr (nw st 0 []) hf (by omega) (by omega)
  rw [show encPreds [] = [] from rfl] at k1
  have hall := filtersV_all (P := QSm) [] l 0 (by simp) (predV_qsm l 0) (filterV_qsm l 0) 0 7
  have hfv := filtersV_all (P := PFV) [] l 0 (by simp) (fun j => pred_fv l 0 j _) (fun j => (filterV_ffv l 0 j).1.fv) 0 7
  have hlen := filtersV_len [] l 0 0 (n := 7) (by omega)
  generalize filtersV [] l 0 0 7 = P1 at *
  obtain ⟨F, J, D⟩ := P1
  simp only at k1 hall hlen hfv
  have hlen2 : F.length ≤ 7 := hlen
  have hps : ∀ f ∈ F, PSm f := fun f hf => psm_of (hall f hf)
  have hff : ∀ f ∈ F, FF f := fun f hf => (hfv f hf).1
  have k2 := fun fr st => k49 F hps (by omega) fr st
  have hro : ∀ f ∈ freduce F, POk f := fun f hf => by
    rcases freduce_mem hf with h | h
    · simp at h
    · exact (hps f h).ok
  have hrl : (freduce F).length ≤ F.length := by
    have := freduce_len (l := F) []
    show (F.foldl fredStep []).length ≤ _
    simpa using this
  have hrow := freduce_row F [] ⟨List.Pairwise.nil⟩
  have hra : ∀ A, AFV A → fany F A = fany (freduce F) A := fun A hA => by
    rw [frow_eq, freduce_any hA F [] (by simp) hff]; simp [fany]
  have hrn : F ≠ [] → freduce F ≠ [] := fun h => by rw [frow_eq]; exact freduce_ne F [] (.inr h)
  rw [← frow_eq] at hrow
  generalize freduce F = R at *
  generalize hS0 : setF (dd (nw st 0 []) D) st.objs.length l (nA l 0 J) = S0 at k1
  have hw0 : S0.wp ≤ S0.objs.length := by
    rw [← hS0, setF_wp, setF_len, dd_wp, dd_len, gr_wp, gr_len]; omega
  clear hS0
  have n2 := new_feed S0 l2
  have hf2 := feedOk_new hw0
  have L56 := fun e8 e9 e12 e13 h8 h9 h12 h13 X T => L9_56 F R (fun f hf => (hps f hf).ok) (by omega) hro (by omega) (kof 1 F) (kof_or 1 F) l l2 (.val (.ptr st.objs.length 0)) rfl (nw S0 0 []) S0.objs.length hf2 hra (fun A hA x hx y hy => covers_sound (hff x hx) (hff y hy) hA) X 8 0 0 e8 e9 e12 e13 h8 h9 h12 h13 T rfl (by omega)
  rw [show ((0 : Nat) : Int) = 0 from rfl] at L56
  generalize hT : setF (nw S0 0 []) S0.objs.length l2 (nA l2 0 (attrsJ l2 8 0)) = T0 at L56
  refine ⟨T0, ?_⟩
  generalize hQ : (Out.ret (V.bool true) none, T0) = Q at L56 ⊢
  clear hQ
  have H50 : ∀ e8 e9 T (h8 : e8.Tame) (h9 : e9.Tame), evK gS fi9 c9_50 { ps := [(0, .val (.slice (intVs l))), (1, .val (.slice (intVs l2))), (4, .val (.bool false)), (5, .val (.ptr st.objs.length 0)), (6, .own (kof 1 F) (encPredss F)), (7, .val (.slice (encPredss R))), (8, e8), (9, e9), (10, .any), (11, .any), (12, .any), (13, .any)], ts := T, lc := [] } S0 .nil = some Q := by
    intro e8 e9 T h8 h9
    rcases kof_or 1 F with ⟨hk, hF⟩ | hk
    · have en : encPredss F = [] := by rw [hF]; rfl
      rw [hk, en] at L56 ⊢
      simp [-St.obj, -St.set, h8, h9, n2, -Int.not_le, -Int.not_lt, -Nat.not_le, -Nat.not_lt, ty3, ty4, ty28, ty29, ty31, ty49, ty50, ty51, hm, hl, hr, fi34_eq, fi36_eq, x39, fi39_eq, p39, x43, fi43_eq, p43, k46, x46, fi46_eq, p46, x47, fi47_eq, p47, fi49_eq, E9, q9_42, e9_49, q9_88, e9_95, e9_50, n9_32, n9_20, n9_78, n9_56]
      exact L56 e8 e9 _ _ h8 h9 tame_any tame_any _ _
    · rw [hk] at L56 ⊢
      simp [-St.obj, -St.set, h8, h9, n2, -Int.not_le, -Int.not_lt, -Nat.not_le, -Nat.not_lt, ty3, ty4, ty28, ty29, ty31, ty49, ty50, ty51, hm, hl, hr, fi34_eq, fi36_eq, x39, fi39_eq, p39, x43, fi43_eq, p43, k46, x46, fi46_eq, p46, x47, fi47_eq, p47, fi49_eq, E9, q9_42, e9_49, q9_88, e9_95, e9_50, n9_32, n9_20, n9_78, n9_56]
      exact L56 e8 e9 _ _ h8 h9 tame_any tame_any _ _
  have LL := fun T => L9_20 F R (fun f hf => (hps f hf).ok) (by omega) hro (by omega) (kof 1 F) (kof_or 1 F) l l2 (.val (.ptr st.objs.length 0)) rfl Q (fun i k a b hi hk hne => row_apart hrow hi hk hne) S0 .any .any .any .any rfl rfl rfl rfl [] H50 R.length 0 .any rfl T (Nat.zero_le _) rfl
  rw [show ((0 : Nat) : Int) = 0 from rfl] at LL
  refine EvF_start fi9_eq (fun x h => by cases h) m9 ?_
  rw [st9]
  rcases kof_or 1 F with ⟨hk, hF⟩ | hk
  · have en : encPredss F = [] := by rw [hF]; rfl
    have hR0 : R.length = 0 := by rw [hF] at hrl; simpa using hrl
    have hFl : F.length = 0 := by rw [hF]; rfl
    have hRn : R = [] := List.length_eq_zero_iff.1 hR0
    rw [hk, en] at k1 LL
    rw [en] at k2
    rw [hRn] at k2 LL
    rw [show encPredss [] = [] from rfl] at k2 LL
    simp [-St.obj, -St.set, n1, k1, k2, -Int.not_le, -Int.not_lt, -Nat.not_le, -Nat.not_lt, ty3, ty4, ty28, ty29, ty31, ty49, ty50, ty51, hm, hl, hr, fi34_eq, fi36_eq, x39, fi39_eq, p39, x43, fi43_eq, p43, k46, x46, fi46_eq, p46, x47, fi47_eq, p47, fi49_eq, E9, q9_42, e9_49, q9_88, e9_95, n9_32, n9_20, n9_78, n9_56]
    exact LL _
  · have hc1 : ¬ ((F.length : Int) < (R.length : Int)) := by omega
    have hc2 : ¬ (F.length < R.length) := by omega
    rw [hk] at k1 LL
    by_cases hF : F = []
    · have hR0 : R.length = 0 := by rw [hF] at hrl; simpa using hrl
      have hRn : R = [] := List.length_eq_zero_iff.1 hR0
      subst hF
      unfold kof at hk
      simp at hk
    · have hRn := hrn hF
      have h1 : 0 < F.length := List.length_pos_iff.2 hF
      have h2 : 0 < R.length := List.length_pos_iff.2 hRn
      have h3 : ¬ ((R.length : Int) = 0) := by omega
      have h4 : (0 : Int) < (F.length : Int) := by omega
      simp [-St.obj, -St.set, n1, k1, k2, hc1, hc2, h1, h2, h3, h4, hRn, -Int.not_le, -Int.not_lt, -Nat.not_le, -Nat.not_lt, ty3, ty4, ty28, ty29, ty31, ty49, ty50, ty51, hm, hl, hr, fi34_eq, fi36_eq, x39, fi39_eq, p39, x43, fi43_eq, p43, k46, x46, fi46_eq, p46, x47, fi47_eq, p47, fi49_eq, E9, q9_42, e9_49, q9_88, e9_95, n9_32, n9_20, n9_78, n9_56]
      exact LL _
theorem run9 (l l2 : List Int) : ∃ st', EvF gS 9 [.slice (intVs l), .slice (intVs l2)] ⟨[], 0⟩ = some (.ret (.bool true) none, st') := c9 l l2 ⟨[], 0⟩ (Nat.le_refl _)
end
end Go.Proofs.Ytclpbfkbpcjejaa
namespace Go.Ab
open Go Go.ChangeShapes Go.WideShapes
set_option linter.unusedVariables false
set_option linter.unusedSimpArgs false
set_option linter.unnecessarySimpa false
variable {H : Type} {enc : TypeId × Value → H} {P : Program} {w : World} {base b0 : Nat} {spare : Nat → Bool} {held : Bool} {r : Reach}
theorem arg_ints {t e : TypeId} {k : IntKind} {v : Value} {d : DataW H} {ps : List MemPlace} (ht : P.underlying t = some (.slice e)) (he : P.underlying e = some (.int k)) (hc : P.cellsOf e = 1)
    (hval : Value.okWide P w r b0 t v) (h : DataW.Trod enc P w base spare held t v d ps) : ∃ zs : List Int, Rep K0 w v (.slice (zs.map (V.int k))) ∧ ∀ n ∈ zs, (Lit.int k n).wf = true := by
  obtain ⟨a0, len, cap, rfl⟩ := okWide_slice ht hval
  obtain ⟨fuel, hf⟩ := h
  rcases open_ints ht he hc hf with ⟨hcs, _⟩ | ⟨a, len', cap', zs, hcs, _, hl, hm, hz, _, hcell, hwz⟩
  · simp [Value.cells] at hcs
    obtain ⟨rfl, rfl, rfl⟩ := hcs
    exact ⟨[], .slice0 _ _, by simp⟩
  · simp [Value.cells] at hcs
    obtain ⟨rfl, rfl, rfl⟩ := hcs
    have hzl : len ≤ zs.length := by rw [hz]; split <;> omega
    by_cases h0 : len = 0
    · subst h0; exact ⟨[], .slice0 _ _, by simp⟩
    · refine ⟨zs.take len, ?_, fun n hn => hwz n (List.mem_of_mem_take hn)⟩
      obtain ⟨b, off, spot⟩ := a
      have hspot : spot = none := by simpa [Addr.add] using World.cell?_spot (hcell 0 (by omega))
      subst hspot
      have hlen : ((zs.take len).map (V.int k)).length = len := by simp; omega
      have hfl : ((zs.take len).map (V.int k)).flatMap V.cells = (zs.take len).map (V.int k) := by
        generalize zs.take len = l
        induction l with
        | nil => rfl
        | cons x r ih => simp only [List.map_cons, List.flatMap_cons, ih]; rfl
      have key : Rep K0 w (.slice (some (at_ b off)) ((zs.take len).map (V.int k)).length cap) (.slice ((zs.take len).map (V.int k))) := by
        refine .slice (k := 1) (by rw [hlen]; exact hl) (fun x hx => ?_) ?_
        · obtain ⟨n, _, rfl⟩ := List.mem_map.1 hx; rfl
        · rw [hfl]
          refine RepAt.of_get fun j x hx => ?_
          rw [List.getElem?_map, List.getElem?_take] at hx
          split at hx
          · rename_i hj
            have hjz : j < zs.length := by omega
            rw [List.getElem?_eq_getElem hjz] at hx
            simp only [Option.map_some, Option.some.injEq] at hx
            subst hx
            refine ⟨.int k zs[j], ⟨?_, rfl⟩, .int _ _⟩
            have := hcell j hjz
            simp only [List.getD, List.getElem?_eq_getElem hjz, Option.getD_some] at this
            rwa [show ({ block := b, off := off } : Addr) = at_ b off from rfl, addr_add] at this
          · cases hx
      rw [hlen] at key
      exact key
end Go.Ab
namespace Go.Ab
open Go Go.ChangeShapes Go.WideShapes
set_option linter.unusedVariables false
set_option linter.unusedSimpArgs false
set_option linter.unnecessarySimpa false
variable {H : Type} {enc : TypeId × Value → H} {P : Program} {w : World} {base b0 : Nat} {spare : Nat → Bool} {held : Bool} {r : Reach}
/-- Plain types. -/
inductive Ty where
  | bool | int (k : IntKind) | float (k : FloatKind) | str
  | sl (e : Ty)
  | st (fs : List Ty)
mutual
def Ty.size : Ty → Nat
  | .st fs => Ty.sizes fs
  | _ => 1
def Ty.sizes : List Ty → Nat
  | [] => 0
  | f :: r => f.size + Ty.sizes r
end
end Go.Ab
namespace Go.Proofs.Ytclpbfkbpcjejaa
open Go Go.Ab Go.ChangeShapes Go.WideShapes Go.ChangeAt Go.RowKit
set_option linter.unusedVariables false
set_option linter.unusedSimpArgs false
set_option linter.unnecessarySimpa false
set_option maxRecDepth 100000 in
theorem filterKeeps_lifted (os : Os) (started : os.Started) (H : Type) (enc : TypeId × Value → H) :
    ReturnsInHanded {} Try.checked os 9 .any (Rows.filterKeepsSpec.pre6 enc Try.prog Try.f9 Rows.filterKeepsRow.domain false) (Rows.filterKeepsSpec.post enc Try.prog Try.f9 false true false false) := by
  refine returnsInHanded_of_change_sized (C := Try.checked) Try.own started (by kernel_rfl) Try.func9
    (ChangeSpec.witness6 (enc := enc) (C := Try.checked) false ⟨#[], #[.slice none 0 0, .slice none 0 0], []⟩ 8 (by kernel_rfl) (by kernel_rfl) (by kernel_rfl) (by kernel_rfl)) ?_
  intro W base args ds gs before hval0 hW _ hsz0 _
  have hW' := hW
  obtain ⟨p, q, hA0, hV, rfl, _, _⟩ := hW
  have hA : DataW.TrodAll enc Try.prog W 0 (fun _ => true) true Try.f9.params.toList args.toList ds p := hA0
  have hpar : Try.f9.params = #[28, 28] := by kernel_rfl
  have hval : ∀ (j : Nat) t v, Try.f9.params[j]? = some t → args[j]? = some v → Value.okWide Try.prog W .any base t v := hval0
  rw [hpar] at hA hval
  obtain ⟨l⟩ := args
  obtain ⟨v0, l, d0, ds, p0, r0, rfl, rfl, rfl, h0, hA⟩ := trodAll_cons hA
  obtain ⟨v1, l, d1, ds, p1, r1, rfl, rfl, rfl, h1, hA⟩ := trodAll_cons hA
  obtain ⟨rfl, rfl, rfl⟩ := trodAll_nil hA
  obtain ⟨rfl, rfl⟩ := trodVars_none hV
  obtain ⟨x0, a0, _⟩ := arg_ints Try.underlying28 Try.underlying3 (by kernel_rfl) (hval 0 28 v0 rfl rfl) h0
  obtain ⟨x1, a1, _⟩ := arg_ints Try.underlying28 Try.underlying3 (by kernel_rfl) (hval 1 28 v1 rfl rfl) h1
  have hlt : ∀ y ∈ p0 ++ (p1 ++ []) ++ [], y.block < W.heap.size := fun y hy => hW'.lt y hy
  have hr : Reps K0 W [v0, v1] [.slice (intVs x0), .slice (intVs x1)] := .cons a0 (.cons a1 .nil)
  obtain ⟨st', hev⟩ := run9 x0 x1
  obtain ⟨nn, hrun⟩ := EvF_fuel hev
  refine (law_calls (n := nn) (f := 9) (xs := [.slice (intVs x0), .slice (intVs x1)]) (gS_calls nn) (by rw [hrun]) (W := W) (args := #[v0, v1]) hr).mono ?_
  rintro e W' ⟨rfl, hn⟩
  refine ⟨_, rfl, _, _, _, [], p0 ++ (p1 ++ []), [], hW', ?_, ?_, rfl, hn.frame _, fun h => by cases h⟩
  · exact trodAll_mk1 (shut_bool Try.underlying4 true)
  · exact ⟨p0, _, Below.trod Try.laidOut (by kernel_rfl) (of_decide_eq_true (by kernel_rfl)) h0 hn (fun y hy => hlt y (by simp [hy])), ⟨p1, _, Below.trod Try.laidOut (by kernel_rfl) (of_decide_eq_true (by kernel_rfl)) h1 hn (fun y hy => hlt y (by simp [hy])), rfl, rfl⟩, rfl⟩
theorem filterKeeps_holds : Rows.FilterKeepsSaid :=
  OpenClaim.holds_of_wide 9 Try.f9 rfl rfl rfl rfl rfl rfl rfl ⟨rfl, rfl, rfl, rfl, rfl⟩ rfl rfl rfl rfl rfl (by kernel_rfl) Try.func9 (by kernel_rfl)
    (of_decide_eq_true (by kernel_rfl)) (by unfold Func.isWrapper; first | (rw [if_pos (by decide +kernel)]; kernel_rfl) | (rw [if_neg (by decide +kernel)]; exact ⟨rfl, rfl⟩))
    (fun os started H enc _ => filterKeeps_lifted os started H enc)
#print axioms filterKeeps_holds
end Go.Proofs.Ytclpbfkbpcjejaa
