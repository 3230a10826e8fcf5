/- Of any Subs, any attributes, any places, each answer of groups is as the document says. Part 6. -/
import Derived.Test.YtdoobejjedpcgaaK5
set_option linter.unusedVariables false
set_option linter.unusedSimpArgs false
set_option linter.unnecessarySimpa false
namespace Go.Proofs.Ytdoobejjedpcgaa
open Go Go.Ab
set_option maxRecDepth 20000
noncomputable section
variable (fr : Fr) (st : St) (k : Kt)
def fi70 : FI := { body := codeOf Try.f70,ntmps := 9,results := [.tmp 2],pers := [0,2],locals := [],pure := false,marks := [] }
theorem fi91_eq : gS.fn 70 = some fi70 := by kernel_rfl
theorem st70 (a0 : V) : startFr fi70 [a0] = { ps := [(0,.val a0),(2,.any)],ts := [],lc := [] } := rfl
def b70 : Code := mini (codeOf Try.f70)
def c70_2 : Code := .seq (codeN b70 5) .ret
theorem e70_2 : evK gS fi70 c70_2 fr st k = opsR gS fi70 [op1 3 (.build 122 #[(0,(.const (.string { data := #[97] }))),(1,(.const (.string { data := #[98] }))),(2,(.const (.string { data := #[99] }))),(3,(.const (.string { data := #[108,111,110,103] })))]) 122,
 mv 4 0 23,
 cal 5 11 [(.tmp 4),(.const (.int .i64 12))] [23,3] 3,
 op1 6 (.binOp .quo 3 (.tmp 5) (.const (.int .i64 3)) 3) 3,
 op1 7 (.binOp .rem 3 (.tmp 6) (.const (.int .i64 4)) 3) 3,
 op1 8 (.index 122 (.tmp 3) (.tmp 7)) 9,
 asn 2 8 9] fr st (.seq .ret k) := evK_rs 1 rfl (by kernel_rfl)
def c70_0 : Code := .seq (codeN b70 2) c70_2
theorem e70_0 : evK gS fi70 c70_0 fr st k = opsR gS fi70 [op1 2 (.assign (.const (.string { data := #[] }))) 9] fr st (.seq c70_2 k) := evK_rs 0 rfl (by kernel_rfl)
theorem m70 : mini fi70.body = c70_0 := by kernel_rfl
set_option maxHeartbeats 8000000 in
theorem c70 (l : List Int) (a j id : Nat) (st : St) (h : FeedOk st id) (ha : a < 549755813888) (hj : j < 549755812000) :
    EvF gS 70 [.ptr id 0] (setF st id l (nA l a j)) = some (.ret (.str (nameV l a j)) none,setF st id l (nA l a (j + 1))) := by
  refine EvF_start fi91_eq (fun x h => by cases h) m70 ?_
  rw [st70]
  have hm : fi70.marks = [] := rfl
  have hl : fi70.locals = [] := rfl
  have hr : fi70.results = [.tmp 2] := rfl
  have hb := fd_bound l a j (n := 12) (by omega)
  unfold nameV
  have hk := fun fr => k11 l a j id 12 fr st h ha (by omega) (by omega)
  generalize fd l a j 12 = z at *
  have hz : z = 0 ∨ z = 1 ∨ z = 2 ∨ z = 3 ∨ z = 4 ∨ z = 5 ∨ z = 6 ∨ z = 7 ∨ z = 8 ∨ z = 9 ∨ z = 10 ∨ z = 11 := by omega
  have v1 : IntKind.wrap .i64 1 = 1 := w64_1
  have v2 : IntKind.wrap .i64 2 = 2 := w64_2
  have v3 : IntKind.wrap .i64 3 = 3 := w64_3
  have v0 : IntKind.wrap .i64 0 = 0 := by kernel_rfl
  rcases hz with rfl | rfl | rfl | rfl | rfl | rfl | rfl | rfl | rfl | rfl | rfl | rfl <;>
    simp [N4,hk,v0,v1,v2,v3,-Int.not_le,-Int.not_lt,-Nat.not_le,-Nat.not_lt,ty3,ty9,ty23,ty122,hm,hl,hr,e70_2,e70_0]
theorem k70 (l : List Int) (a j id : Nat)  (fr : Fr) (st : St) (h : FeedOk st id) (ha : a < 549755813888) (hj : j < 549755812000) :
    callStep gS (EvF gS) 70 [.ptr id 0] fr (setF st id l (nA l a j)) = some (.ok (.val (.str (nameV l a j))) (fr.map E.noMem) (setF st id l (nA l a (j + 1)))) := by
  unfold callStep
  simp only [show gS.ext 70 = none from rfl,fi91_eq,show fi70.pure = false from rfl,Bool.false_eq_true,if_false,c70 l a j id  st h ha (by omega),retE]
  all_goals rfl
def fi17 : FI := { body := codeOf Try.f17,ntmps := 26,results := [.tmp 2],pers := [0,2,3,4,5],locals := [4],pure := false,marks := [1000000] }
theorem fi36_eq : gS.fn 17 = some fi17 := by kernel_rfl
theorem st17 (a0 : V) : startFr fi17 [a0] = { ps := [(0,.val a0),(2,.any),(3,.any),(4,.any),(5,.any)],ts := [],lc := [] } := rfl
def b17 : Code := mini (codeOf Try.f17)
def c17_14 : Code := .cond (.tmp 8) .skip (.exit 0)
def c17_12 : Code := .seq (codeN b17 535) c17_14
def r17_22 : Array Oper := regOps (codeN (codeOf Try.f17) 5271)
def c17_22 : Code := .region 7 r17_22 true
def q17_22 : List (Oper × Fl) := [(mv 16 3 42,⟨true,false,false,false,false,false,true,false,false,true,[]⟩),
 (mv 17 5 3,⟨true,false,false,false,false,false,true,false,false,true,[]⟩),
 (ixa 18 92 4 17 0,⟨true,false,false,false,false,false,true,false,false,true,[]⟩),
 (ld 19 9 18 9,⟨true,false,false,false,false,false,true,false,false,true,[]⟩),
 (mv 20 0 23,⟨true,false,true,false,true,false,true,true,false,false,[]⟩),
 (cal 21 55 [(.tmp 20)] [23] 88,⟨false,true,true,false,true,true,true,true,false,false,[]⟩),
 (op1 22 (.build 95 #[(0,(.tmp 19)),(1,(.tmp 21))]) 95,⟨true,false,true,false,true,false,true,true,false,false,[]⟩),
 (op1 23 (.buildSlice 42 1 #[(0,(.tmp 22))]) 42,⟨true,false,true,false,true,false,true,true,false,false,[]⟩),
 (op1 24 (.call { callee := (.builtin .append),args := #[(.tmp 16),(.tmp 23)],argTypes := #[42,42] }) 42,⟨false,true,true,false,true,true,true,true,false,false,[]⟩),
 (asn 3 24 42,⟨true,true,true,false,true,false,true,true,false,false,[]⟩)]
def c17_21 : Code := .cond (.tmp 15) c17_22 .skip
def c17_19 : Code := .seq (codeN b17 2199) c17_21
def c17_24 : Code := codeN b17 919
def c17_17 : Code := .seq (.block 1 c17_19) c17_24
def c17_11 : Code := .seq c17_12 c17_17
def c17_10 : Code := .loop c17_11
def c17_9 : Code := .block 0 c17_10
def c17_7 : Code := .seq (codeN b17 39) c17_9
def c17_25 : Code := .seq (codeN b17 47) .ret
def c17_6 : Code := .seq c17_7 c17_25
def c17_4 : Code := .seq (codeN b17 11) c17_6
def c17_2 : Code := .seq (codeN b17 5) c17_4
def c17_0 : Code := .seq (codeN b17 2) c17_2
theorem E17 : evK gS fi17 c17_14 fr st k = condK gS fi17 (fr.op (.tmp 8)).bool? .skip (.exit 0) fr st k ∧
 (evK gS fi17 c17_12 fr st k = opsR gS fi17 [mv 7 5 3,
 op1 8 (.binOp .lss 3 (.tmp 7) (.const (.int .i64 5)) 3) 4] fr st (.seq c17_14 k)) ∧
 evK gS fi17 c17_22 fr st k = drwR gS fi17 r17_22 q17_22 fr st k ∧
 evK gS fi17 c17_21 fr st k = condK gS fi17 (fr.op (.tmp 15)).bool? c17_22 .skip fr st k ∧
 (evK gS fi17 c17_19 fr st k = opsR gS fi17 [mv 11 0 23,
 cal 12 11 [(.tmp 11),(.const (.int .i64 3))] [23,3] 3,
 mv 13 5 3,
 op1 14 (.binOp .quo 3 (.tmp 13) (.const (.int .i64 3)) 3) 3,
 bop 15 .gtr 3 12 14 3 4] fr st (.seq c17_21 k)) ∧
 (evK gS fi17 c17_24 fr st k = opsR gS fi17 [mv 9 5 3,
 op1 10 (.binOp .add 3 (.tmp 9) (.const (.int .i64 1)) 3) 3,
 asn 5 10 3] fr st k) ∧
 evK gS fi17 c17_17 fr st k = evK gS fi17 c17_19 fr st (.blk 1 (.seq c17_24 k)) ∧
 evK gS fi17 c17_11 fr st k = evK gS fi17 c17_12 fr st (.seq c17_17 k) ∧
 evK gS fi17 c17_9 fr st k = evK gS fi17 c17_10 fr st (.blk 0 k) ∧
 evK gS fi17 c17_7 fr st k = opsR gS fi17 [op1 5 (.assign (.const (.int .i64 0))) 3] fr st (.seq c17_9 k) ∧
 (evK gS fi17 c17_25 fr st k = opsR gS fi17 [mv 25 3 42,
 asn 2 25 42] fr st (.seq .ret k)) ∧
 evK gS fi17 c17_6 fr st k = evK gS fi17 c17_7 fr st (.seq c17_25 k) ∧
 (evK gS fi17 c17_4 fr st k = opsR gS fi17 [op1 6 (.build 92 #[(0,(.const (.string { data := #[97] }))),(1,(.const (.string { data := #[98] }))),(2,(.const (.string { data := #[99] }))),(3,(.const (.string { data := #[100] }))),(4,(.const (.string { data := #[108,111,110,103] })))]) 92,
 op1 4 (.alloc 92) 0,
 sto 92 4 6] fr st (.seq c17_6 k)) ∧
 evK gS fi17 c17_2 fr st k = opsR gS fi17 [op1 3 (.assign (.const (.slice none 0 0))) 42] fr st (.seq c17_4 k) ∧
 evK gS fi17 c17_0 fr st k = opsR gS fi17 [op1 2 (.assign (.const (.slice none 0 0))) 42] fr st (.seq c17_2 k) := ⟨rfl,evK_rs 4 rfl (by kernel_rfl),evK_dr 7 rfl (by kernel_rfl) (by kernel_rfl),rfl,evK_rs 6 rfl (by kernel_rfl),evK_r 5 (by kernel_rfl),rfl,rfl,rfl,evK_rs 3 rfl (by kernel_rfl),evK_rs 8 rfl (by kernel_rfl),rfl,evK_rs 2 rfl (by kernel_rfl),evK_rs 1 rfl (by kernel_rfl),evK_rs 0 rfl (by kernel_rfl)⟩
theorem m17 : mini fi17.body = c17_0 := by kernel_rfl
theorem n17_10 (fr : Fr) (st : St) (k : Kt) : nextK gS fi17 (.loop c17_11 k) .normal fr st = evK gS fi17 c17_10 fr st k := rfl
theorem attrs_snoc (l : List Attr) (x : Attr) : encAttrs l ++ [.agg [.str x.name,.int .i64 x.v.kind,.int .i64 x.v.n,.float .f64 x.v.x,.str x.v.s,.bool x.v.b]] = encAttrs (l ++ [x]) := by simp [encAttrs,Attr.enc,Attr.cells]
theorem sizes_attrs (l : List Attr) : sizesOk 6 (encAttrs l) = true := by
  induction l with
  | nil => rfl
  | cons x r ih => simp only [encAttrs,List.map_cons,sizesOk] at ih ⊢; rw [ih]; rfl
set_option maxHeartbeats 8000000 in
theorem L17_5 (l : List Int) (a id : Nat) (ha : a < 549755813888) (st : St) (h : FeedOk st id) (j k : Nat) (f : List Attr) (hj : j + 15 < 549755812000 + 3 * 5) (hf : f.length ≤ 5) (hk : k = 0 ∧ f = [] ∨ k = 6) (T : List (Nat × E)) (X : List (Nat × List V)) (hx : lk X 4 = some [.str [97],.str [98],.str [99],.str [100],.str [108,111,110,103]]) :
    evK gS fi17 c17_10 { ps := [(0,.val (.ptr id 0)),(2,.own 0 []),(3,.own k (encAttrs f)),(4,.lp 4 0),(5,.val (.int .i64 5))],ts := T,lc := X } (setF st id l (nA l a j)) (.blk 0 (.seq c17_25 .nil)) = some (.ret (.slice (encAttrs (f ++ (attrsG l a [] j).1))) none,setF st id l (nA l a (attrsG l a [] j).2)) := by
  have hm : fi17.marks = [1000000] := rfl
  have hl : fi17.locals = [4] := rfl
  have hr : fi17.results = [.tmp 2] := rfl
  refine evK_loop c17_11 _ _ _ _ rfl ?_
  have hz : ∀ st,frz 6 st (.slice (encAttrs f)) = some (.slice (encAttrs f),st) := fun st => frz_flat 6 st _ (by simp [V.flat])
  rw [show (attrsG l a [] j) = ([],j) from rfl]
  rcases hk with ⟨rfl,rfl⟩ | rfl
  · have en : encAttrs [] = [] := rfl
    rw [en] at hz
    simp [en,hz,hx,-Int.not_le,-Int.not_lt,-Nat.not_le,-Nat.not_lt,ty3,ty4,ty9,ty23,ty42,ty88,ty92,ty95,eq88,hm,hl,hr,fi16_eq,fi17_eq,E17,q17_22,n17_10]
  · simp [hz,hx,-Int.not_le,-Int.not_lt,-Nat.not_le,-Nat.not_lt,ty3,ty4,ty9,ty23,ty42,ty88,ty92,ty95,eq88,hm,hl,hr,fi16_eq,fi17_eq,E17,q17_22,n17_10]
set_option maxHeartbeats 8000000 in
theorem L17_4 (l : List Int) (a id : Nat) (ha : a < 549755813888) (st : St) (h : FeedOk st id) (j k : Nat) (f : List Attr) (hj : j + 15 < 549755812000 + 3 * 4) (hf : f.length ≤ 4) (hk : k = 0 ∧ f = [] ∨ k = 6) (T : List (Nat × E)) (X : List (Nat × List V)) (hx : lk X 4 = some [.str [97],.str [98],.str [99],.str [100],.str [108,111,110,103]]) :
    evK gS fi17 c17_10 { ps := [(0,.val (.ptr id 0)),(2,.own 0 []),(3,.own k (encAttrs f)),(4,.lp 4 0),(5,.val (.int .i64 4))],ts := T,lc := X } (setF st id l (nA l a j)) (.blk 0 (.seq c17_25 .nil)) = some (.ret (.slice (encAttrs (f ++ (attrsG l a [([108,111,110,103],1)] j).1))) none,setF st id l (nA l a (attrsG l a [([108,111,110,103],1)] j).2)) := by
  have hm : fi17.marks = [1000000] := rfl
  have hl : fi17.locals = [4] := rfl
  have hr : fi17.results = [.tmp 2] := rfl
  refine evK_loop c17_11 _ _ _ _ rfl ?_
  have hb := fd_bound l a j (n := 3) (by omega)
  have hk3 := fun fr => k11 l a j id 3 fr st h ha (by omega) (by omega)
  have hv := fun fr => k55 l a (j + 1) id fr st h ha (by omega)
  have v0 : IntKind.wrap .i64 0 = 0 := by kernel_rfl
  have bo : borOk r17_22 0 3 16 = true := by kernel_rfl
  have bh : handOk r17_22 9 24 = true := by kernel_rfl
  have hr : attrsG l a [([108,111,110,103],1)] j = if fd l a j 3 > 1 then (⟨[108,111,110,103],valueV l a (j + 1)⟩ :: (attrsG l a [] (j + 3)).1,(attrsG l a [] (j + 3)).2) else attrsG l a [] (j + 1) := rfl
  rw [hr]
  generalize fd l a j 3 = z at *
  by_cases hz : z > 1
  · rw [if_pos hz]
    have N := fun T X hx => L17_5 l a id ha st h (j + 3) 6 (f ++ [⟨[108,111,110,103],valueV l a (j + 1)⟩]) (by omega) (by rw [List.length_append]; exact Nat.add_le_add hf (Nat.le_refl 1)) (.inr rfl) T X hx
    have e1 := attrs_snoc f ⟨[108,111,110,103],valueV l a (j + 1)⟩
    have e2 := sizes_attrs f
    have e3 : (f.length + 1) * 64 ≤ 140737488355328 := by omega
    have e4 : f.length + 1 ≤ 140737488355328 := by omega
    have hz' : (1 : Int) < z := hz
    have a3 : j + 1 + 2 = j + 3 := rfl
    rcases hk with ⟨rfl,rfl⟩ | rfl
    · simp only [List.nil_append,List.cons_append] at N e1
      simp [-List.append_assoc,bo,bh,hx,hk3,hv,v0,w64_1,w64_2,w64_3,w64_4,w64_5,hz',a3,e1,e2,N,-Int.not_le,-Int.not_lt,-Nat.not_le,-Nat.not_lt,ty3,ty4,ty9,ty23,ty42,ty88,ty92,ty95,eq88,hm,hl,hr,fi16_eq,fi17_eq,E17,q17_22,n17_10]
    · rw [show (f ++ (⟨[108,111,110,103],valueV l a (j + 1)⟩ :: (attrsG l a [] (j + 3)).1)) = (f ++ [⟨[108,111,110,103],valueV l a (j + 1)⟩]) ++ (attrsG l a [] (j + 3)).1 by simp]
      simp only [] at e1
      simp [-List.append_assoc,bo,bh,hx,hk3,hv,v0,w64_1,w64_2,w64_3,w64_4,w64_5,hz',a3,e1,e2,e3,e4,N,-Int.not_le,-Int.not_lt,-Nat.not_le,-Nat.not_lt,ty3,ty4,ty9,ty23,ty42,ty88,ty92,ty95,eq88,hm,hl,hr,fi16_eq,fi17_eq,E17,q17_22,n17_10]
  · rw [if_neg hz]
    have N := fun T X hx => L17_5 l a id ha st h (j + 1) k f (by omega) (Nat.le_trans hf (by omega)) hk T X hx
    have hz' : ¬ (1 : Int) < z := hz
    simp [hx,hk3,hv,v0,w64_1,w64_2,w64_3,w64_4,w64_5,hz',N,-Int.not_le,-Int.not_lt,-Nat.not_le,-Nat.not_lt,ty3,ty4,ty9,ty23,ty42,ty88,ty92,ty95,eq88,hm,hl,hr,fi16_eq,fi17_eq,E17,q17_22,n17_10]
set_option maxHeartbeats 8000000 in
theorem L17_3 (l : List Int) (a id : Nat) (ha : a < 549755813888) (st : St) (h : FeedOk st id) (j k : Nat) (f : List Attr) (hj : j + 15 < 549755812000 + 3 * 3) (hf : f.length ≤ 3) (hk : k = 0 ∧ f = [] ∨ k = 6) (T : List (Nat × E)) (X : List (Nat × List V)) (hx : lk X 4 = some [.str [97],.str [98],.str [99],.str [100],.str [108,111,110,103]]) :
    evK gS fi17 c17_10 { ps := [(0,.val (.ptr id 0)),(2,.own 0 []),(3,.own k (encAttrs f)),(4,.lp 4 0),(5,.val (.int .i64 3))],ts := T,lc := X } (setF st id l (nA l a j)) (.blk 0 (.seq c17_25 .nil)) = some (.ret (.slice (encAttrs (f ++ (attrsG l a [([100],1),([108,111,110,103],1)] j).1))) none,setF st id l (nA l a (attrsG l a [([100],1),([108,111,110,103],1)] j).2)) := by
  have hm : fi17.marks = [1000000] := rfl
  have hl : fi17.locals = [4] := rfl
  have hr : fi17.results = [.tmp 2] := rfl
  refine evK_loop c17_11 _ _ _ _ rfl ?_
  have hb := fd_bound l a j (n := 3) (by omega)
  have hk3 := fun fr => k11 l a j id 3 fr st h ha (by omega) (by omega)
  have hv := fun fr => k55 l a (j + 1) id fr st h ha (by omega)
  have v0 : IntKind.wrap .i64 0 = 0 := by kernel_rfl
  have bo : borOk r17_22 0 3 16 = true := by kernel_rfl
  have bh : handOk r17_22 9 24 = true := by kernel_rfl
  have hr : attrsG l a [([100],1),([108,111,110,103],1)] j = if fd l a j 3 > 1 then (⟨[100],valueV l a (j + 1)⟩ :: (attrsG l a [([108,111,110,103],1)] (j + 3)).1,(attrsG l a [([108,111,110,103],1)] (j + 3)).2) else attrsG l a [([108,111,110,103],1)] (j + 1) := rfl
  rw [hr]
  generalize fd l a j 3 = z at *
  by_cases hz : z > 1
  · rw [if_pos hz]
    have N := fun T X hx => L17_4 l a id ha st h (j + 3) 6 (f ++ [⟨[100],valueV l a (j + 1)⟩]) (by omega) (by rw [List.length_append]; exact Nat.add_le_add hf (Nat.le_refl 1)) (.inr rfl) T X hx
    have e1 := attrs_snoc f ⟨[100],valueV l a (j + 1)⟩
    have e2 := sizes_attrs f
    have e3 : (f.length + 1) * 64 ≤ 140737488355328 := by omega
    have e4 : f.length + 1 ≤ 140737488355328 := by omega
    have hz' : (1 : Int) < z := hz
    have a3 : j + 1 + 2 = j + 3 := rfl
    rcases hk with ⟨rfl,rfl⟩ | rfl
    · simp only [List.nil_append,List.cons_append] at N e1
      simp [-List.append_assoc,bo,bh,hx,hk3,hv,v0,w64_1,w64_2,w64_3,w64_4,w64_5,hz',a3,e1,e2,N,-Int.not_le,-Int.not_lt,-Nat.not_le,-Nat.not_lt,ty3,ty4,ty9,ty23,ty42,ty88,ty92,ty95,eq88,hm,hl,hr,fi16_eq,fi17_eq,E17,q17_22,n17_10]
    · rw [show (f ++ (⟨[100],valueV l a (j + 1)⟩ :: (attrsG l a [([108,111,110,103],1)] (j + 3)).1)) = (f ++ [⟨[100],valueV l a (j + 1)⟩]) ++ (attrsG l a [([108,111,110,103],1)] (j + 3)).1 by simp]
      simp only [] at e1
      simp [-List.append_assoc,bo,bh,hx,hk3,hv,v0,w64_1,w64_2,w64_3,w64_4,w64_5,hz',a3,e1,e2,e3,e4,N,-Int.not_le,-Int.not_lt,-Nat.not_le,-Nat.not_lt,ty3,ty4,ty9,ty23,ty42,ty88,ty92,ty95,eq88,hm,hl,hr,fi16_eq,fi17_eq,E17,q17_22,n17_10]
  · rw [if_neg hz]
    have N := fun T X hx => L17_4 l a id ha st h (j + 1) k f (by omega) (Nat.le_trans hf (by omega)) hk T X hx
    have hz' : ¬ (1 : Int) < z := hz
    simp [hx,hk3,hv,v0,w64_1,w64_2,w64_3,w64_4,w64_5,hz',N,-Int.not_le,-Int.not_lt,-Nat.not_le,-Nat.not_lt,ty3,ty4,ty9,ty23,ty42,ty88,ty92,ty95,eq88,hm,hl,hr,fi16_eq,fi17_eq,E17,q17_22,n17_10]
set_option maxHeartbeats 8000000 in
theorem L17_2 (l : List Int) (a id : Nat) (ha : a < 549755813888) (st : St) (h : FeedOk st id) (j k : Nat) (f : List Attr) (hj : j + 15 < 549755812000 + 3 * 2) (hf : f.length ≤ 2) (hk : k = 0 ∧ f = [] ∨ k = 6) (T : List (Nat × E)) (X : List (Nat × List V)) (hx : lk X 4 = some [.str [97],.str [98],.str [99],.str [100],.str [108,111,110,103]]) :
    evK gS fi17 c17_10 { ps := [(0,.val (.ptr id 0)),(2,.own 0 []),(3,.own k (encAttrs f)),(4,.lp 4 0),(5,.val (.int .i64 2))],ts := T,lc := X } (setF st id l (nA l a j)) (.blk 0 (.seq c17_25 .nil)) = some (.ret (.slice (encAttrs (f ++ (attrsG l a [([99],0),([100],1),([108,111,110,103],1)] j).1))) none,setF st id l (nA l a (attrsG l a [([99],0),([100],1),([108,111,110,103],1)] j).2)) := by
  have hm : fi17.marks = [1000000] := rfl
  have hl : fi17.locals = [4] := rfl
  have hr : fi17.results = [.tmp 2] := rfl
  refine evK_loop c17_11 _ _ _ _ rfl ?_
  have hb := fd_bound l a j (n := 3) (by omega)
  have hk3 := fun fr => k11 l a j id 3 fr st h ha (by omega) (by omega)
  have hv := fun fr => k55 l a (j + 1) id fr st h ha (by omega)
  have v0 : IntKind.wrap .i64 0 = 0 := by kernel_rfl
  have bo : borOk r17_22 0 3 16 = true := by kernel_rfl
  have bh : handOk r17_22 9 24 = true := by kernel_rfl
  have hr : attrsG l a [([99],0),([100],1),([108,111,110,103],1)] j = if fd l a j 3 > 0 then (⟨[99],valueV l a (j + 1)⟩ :: (attrsG l a [([100],1),([108,111,110,103],1)] (j + 3)).1,(attrsG l a [([100],1),([108,111,110,103],1)] (j + 3)).2) else attrsG l a [([100],1),([108,111,110,103],1)] (j + 1) := rfl
  rw [hr]
  generalize fd l a j 3 = z at *
  by_cases hz : z > 0
  · rw [if_pos hz]
    have N := fun T X hx => L17_3 l a id ha st h (j + 3) 6 (f ++ [⟨[99],valueV l a (j + 1)⟩]) (by omega) (by rw [List.length_append]; exact Nat.add_le_add hf (Nat.le_refl 1)) (.inr rfl) T X hx
    have e1 := attrs_snoc f ⟨[99],valueV l a (j + 1)⟩
    have e2 := sizes_attrs f
    have e3 : (f.length + 1) * 64 ≤ 140737488355328 := by omega
    have e4 : f.length + 1 ≤ 140737488355328 := by omega
    have hz' : (0 : Int) < z := hz
    have a3 : j + 1 + 2 = j + 3 := rfl
    rcases hk with ⟨rfl,rfl⟩ | rfl
    · simp only [List.nil_append,List.cons_append] at N e1
      simp [-List.append_assoc,bo,bh,hx,hk3,hv,v0,w64_1,w64_2,w64_3,w64_4,w64_5,hz',a3,e1,e2,N,-Int.not_le,-Int.not_lt,-Nat.not_le,-Nat.not_lt,ty3,ty4,ty9,ty23,ty42,ty88,ty92,ty95,eq88,hm,hl,hr,fi16_eq,fi17_eq,E17,q17_22,n17_10]
    · rw [show (f ++ (⟨[99],valueV l a (j + 1)⟩ :: (attrsG l a [([100],1),([108,111,110,103],1)] (j + 3)).1)) = (f ++ [⟨[99],valueV l a (j + 1)⟩]) ++ (attrsG l a [([100],1),([108,111,110,103],1)] (j + 3)).1 by simp]
      simp only [] at e1
      simp [-List.append_assoc,bo,bh,hx,hk3,hv,v0,w64_1,w64_2,w64_3,w64_4,w64_5,hz',a3,e1,e2,e3,e4,N,-Int.not_le,-Int.not_lt,-Nat.not_le,-Nat.not_lt,ty3,ty4,ty9,ty23,ty42,ty88,ty92,ty95,eq88,hm,hl,hr,fi16_eq,fi17_eq,E17,q17_22,n17_10]
  · rw [if_neg hz]
    have N := fun T X hx => L17_3 l a id ha st h (j + 1) k f (by omega) (Nat.le_trans hf (by omega)) hk T X hx
    have hz' : ¬ (0 : Int) < z := hz
    simp [hx,hk3,hv,v0,w64_1,w64_2,w64_3,w64_4,w64_5,hz',N,-Int.not_le,-Int.not_lt,-Nat.not_le,-Nat.not_lt,ty3,ty4,ty9,ty23,ty42,ty88,ty92,ty95,eq88,hm,hl,hr,fi16_eq,fi17_eq,E17,q17_22,n17_10]
set_option maxHeartbeats 8000000 in
theorem L17_1 (l : List Int) (a id : Nat) (ha : a < 549755813888) (st : St) (h : FeedOk st id) (j k : Nat) (f : List Attr) (hj : j + 15 < 549755812000 + 3 * 1) (hf : f.length ≤ 1) (hk : k = 0 ∧ f = [] ∨ k = 6) (T : List (Nat × E)) (X : List (Nat × List V)) (hx : lk X 4 = some [.str [97],.str [98],.str [99],.str [100],.str [108,111,110,103]]) :
    evK gS fi17 c17_10 { ps := [(0,.val (.ptr id 0)),(2,.own 0 []),(3,.own k (encAttrs f)),(4,.lp 4 0),(5,.val (.int .i64 1))],ts := T,lc := X } (setF st id l (nA l a j)) (.blk 0 (.seq c17_25 .nil)) = some (.ret (.slice (encAttrs (f ++ (attrsG l a [([98],0),([99],0),([100],1),([108,111,110,103],1)] j).1))) none,setF st id l (nA l a (attrsG l a [([98],0),([99],0),([100],1),([108,111,110,103],1)] j).2)) := by
  have hm : fi17.marks = [1000000] := rfl
  have hl : fi17.locals = [4] := rfl
  have hr : fi17.results = [.tmp 2] := rfl
  refine evK_loop c17_11 _ _ _ _ rfl ?_
  have hb := fd_bound l a j (n := 3) (by omega)
  have hk3 := fun fr => k11 l a j id 3 fr st h ha (by omega) (by omega)
  have hv := fun fr => k55 l a (j + 1) id fr st h ha (by omega)
  have v0 : IntKind.wrap .i64 0 = 0 := by kernel_rfl
  have bo : borOk r17_22 0 3 16 = true := by kernel_rfl
  have bh : handOk r17_22 9 24 = true := by kernel_rfl
  have hr : attrsG l a [([98],0),([99],0),([100],1),([108,111,110,103],1)] j = if fd l a j 3 > 0 then (⟨[98],valueV l a (j + 1)⟩ :: (attrsG l a [([99],0),([100],1),([108,111,110,103],1)] (j + 3)).1,(attrsG l a [([99],0),([100],1),([108,111,110,103],1)] (j + 3)).2) else attrsG l a [([99],0),([100],1),([108,111,110,103],1)] (j + 1) := rfl
  rw [hr]
  generalize fd l a j 3 = z at *
  by_cases hz : z > 0
  · rw [if_pos hz]
    have N := fun T X hx => L17_2 l a id ha st h (j + 3) 6 (f ++ [⟨[98],valueV l a (j + 1)⟩]) (by omega) (by rw [List.length_append]; exact Nat.add_le_add hf (Nat.le_refl 1)) (.inr rfl) T X hx
    have e1 := attrs_snoc f ⟨[98],valueV l a (j + 1)⟩
    have e2 := sizes_attrs f
    have e3 : (f.length + 1) * 64 ≤ 140737488355328 := by omega
    have e4 : f.length + 1 ≤ 140737488355328 := by omega
    have hz' : (0 : Int) < z := hz
    have a3 : j + 1 + 2 = j + 3 := rfl
    rcases hk with ⟨rfl,rfl⟩ | rfl
    · simp only [List.nil_append,List.cons_append] at N e1
      simp [-List.append_assoc,bo,bh,hx,hk3,hv,v0,w64_1,w64_2,w64_3,w64_4,w64_5,hz',a3,e1,e2,N,-Int.not_le,-Int.not_lt,-Nat.not_le,-Nat.not_lt,ty3,ty4,ty9,ty23,ty42,ty88,ty92,ty95,eq88,hm,hl,hr,fi16_eq,fi17_eq,E17,q17_22,n17_10]
    · rw [show (f ++ (⟨[98],valueV l a (j + 1)⟩ :: (attrsG l a [([99],0),([100],1),([108,111,110,103],1)] (j + 3)).1)) = (f ++ [⟨[98],valueV l a (j + 1)⟩]) ++ (attrsG l a [([99],0),([100],1),([108,111,110,103],1)] (j + 3)).1 by simp]
      simp only [] at e1
      simp [-List.append_assoc,bo,bh,hx,hk3,hv,v0,w64_1,w64_2,w64_3,w64_4,w64_5,hz',a3,e1,e2,e3,e4,N,-Int.not_le,-Int.not_lt,-Nat.not_le,-Nat.not_lt,ty3,ty4,ty9,ty23,ty42,ty88,ty92,ty95,eq88,hm,hl,hr,fi16_eq,fi17_eq,E17,q17_22,n17_10]
  · rw [if_neg hz]
    have N := fun T X hx => L17_2 l a id ha st h (j + 1) k f (by omega) (Nat.le_trans hf (by omega)) hk T X hx
    have hz' : ¬ (0 : Int) < z := hz
    simp [hx,hk3,hv,v0,w64_1,w64_2,w64_3,w64_4,w64_5,hz',N,-Int.not_le,-Int.not_lt,-Nat.not_le,-Nat.not_lt,ty3,ty4,ty9,ty23,ty42,ty88,ty92,ty95,eq88,hm,hl,hr,fi16_eq,fi17_eq,E17,q17_22,n17_10]
set_option maxHeartbeats 8000000 in
theorem L17_0 (l : List Int) (a id : Nat) (ha : a < 549755813888) (st : St) (h : FeedOk st id) (j k : Nat) (f : List Attr) (hj : j + 15 < 549755812000 + 3 * 0) (hf : f.length ≤ 0) (hk : k = 0 ∧ f = [] ∨ k = 6) (T : List (Nat × E)) (X : List (Nat × List V)) (hx : lk X 4 = some [.str [97],.str [98],.str [99],.str [100],.str [108,111,110,103]]) :
    evK gS fi17 c17_10 { ps := [(0,.val (.ptr id 0)),(2,.own 0 []),(3,.own k (encAttrs f)),(4,.lp 4 0),(5,.val (.int .i64 0))],ts := T,lc := X } (setF st id l (nA l a j)) (.blk 0 (.seq c17_25 .nil)) = some (.ret (.slice (encAttrs (f ++ (attrsG l a [([97],0),([98],0),([99],0),([100],1),([108,111,110,103],1)] j).1))) none,setF st id l (nA l a (attrsG l a [([97],0),([98],0),([99],0),([100],1),([108,111,110,103],1)] j).2)) := by
  have hm : fi17.marks = [1000000] := rfl
  have hl : fi17.locals = [4] := rfl
  have hr : fi17.results = [.tmp 2] := rfl
  refine evK_loop c17_11 _ _ _ _ rfl ?_
  have hb := fd_bound l a j (n := 3) (by omega)
  have hk3 := fun fr => k11 l a j id 3 fr st h ha (by omega) (by omega)
  have hv := fun fr => k55 l a (j + 1) id fr st h ha (by omega)
  have v0 : IntKind.wrap .i64 0 = 0 := by kernel_rfl
  have bo : borOk r17_22 0 3 16 = true := by kernel_rfl
  have bh : handOk r17_22 9 24 = true := by kernel_rfl
  have hr : attrsG l a [([97],0),([98],0),([99],0),([100],1),([108,111,110,103],1)] j = if fd l a j 3 > 0 then (⟨[97],valueV l a (j + 1)⟩ :: (attrsG l a [([98],0),([99],0),([100],1),([108,111,110,103],1)] (j + 3)).1,(attrsG l a [([98],0),([99],0),([100],1),([108,111,110,103],1)] (j + 3)).2) else attrsG l a [([98],0),([99],0),([100],1),([108,111,110,103],1)] (j + 1) := rfl
  rw [hr]
  generalize fd l a j 3 = z at *
  by_cases hz : z > 0
  · rw [if_pos hz]
    have N := fun T X hx => L17_1 l a id ha st h (j + 3) 6 (f ++ [⟨[97],valueV l a (j + 1)⟩]) (by omega) (by rw [List.length_append]; exact Nat.add_le_add hf (Nat.le_refl 1)) (.inr rfl) T X hx
    have e1 := attrs_snoc f ⟨[97],valueV l a (j + 1)⟩
    have e2 := sizes_attrs f
    have e3 : (f.length + 1) * 64 ≤ 140737488355328 := by omega
    have e4 : f.length + 1 ≤ 140737488355328 := by omega
    have hz' : (0 : Int) < z := hz
    have a3 : j + 1 + 2 = j + 3 := rfl
    rcases hk with ⟨rfl,rfl⟩ | rfl
    · simp only [List.nil_append,List.cons_append] at N e1
      simp [-List.append_assoc,bo,bh,hx,hk3,hv,v0,w64_1,w64_2,w64_3,w64_4,w64_5,hz',a3,e1,e2,N,-Int.not_le,-Int.not_lt,-Nat.not_le,-Nat.not_lt,ty3,ty4,ty9,ty23,ty42,ty88,ty92,ty95,eq88,hm,hl,hr,fi16_eq,fi17_eq,E17,q17_22,n17_10]
    · rw [show (f ++ (⟨[97],valueV l a (j + 1)⟩ :: (attrsG l a [([98],0),([99],0),([100],1),([108,111,110,103],1)] (j + 3)).1)) = (f ++ [⟨[97],valueV l a (j + 1)⟩]) ++ (attrsG l a [([98],0),([99],0),([100],1),([108,111,110,103],1)] (j + 3)).1 by simp]
      simp only [] at e1
      simp [-List.append_assoc,bo,bh,hx,hk3,hv,v0,w64_1,w64_2,w64_3,w64_4,w64_5,hz',a3,e1,e2,e3,e4,N,-Int.not_le,-Int.not_lt,-Nat.not_le,-Nat.not_lt,ty3,ty4,ty9,ty23,ty42,ty88,ty92,ty95,eq88,hm,hl,hr,fi16_eq,fi17_eq,E17,q17_22,n17_10]
  · rw [if_neg hz]
    have N := fun T X hx => L17_1 l a id ha st h (j + 1) k f (by omega) (Nat.le_trans hf (by omega)) hk T X hx
    have hz' : ¬ (0 : Int) < z := hz
    simp [hx,hk3,hv,v0,w64_1,w64_2,w64_3,w64_4,w64_5,hz',N,-Int.not_le,-Int.not_lt,-Nat.not_le,-Nat.not_lt,ty3,ty4,ty9,ty23,ty42,ty88,ty92,ty95,eq88,hm,hl,hr,fi16_eq,fi17_eq,E17,q17_22,n17_10]
set_option maxHeartbeats 8000000 in
theorem c17 (l : List Int) (a j id : Nat) (st : St) (h : FeedOk st id) (ha : a < 549755813888) (hj : j < 549755811000) :
    EvF gS 17 [.ptr id 0] (setF st id l (nA l a j)) = some (.ret (.slice (encAttrs (attrsV l a j).1)) none,setF st id l (nA l a (attrsV l a j).2)) := by
  refine EvF_start fi36_eq (fun x h => by cases h) m17 ?_
  rw [st17]
  have hm : fi17.marks = [1000000] := rfl
  have hl : fi17.locals = [4] := rfl
  have hr : fi17.results = [.tmp 2] := rfl
  have L0 := fun T X hx => L17_0 l a id ha st h j 0 [] (by omega) (by simp) (.inl ⟨rfl,rfl⟩) T X hx
  rw [List.nil_append] at L0
  rw [show attrsV l a j = attrsG l a [([97],0),([98],0),([99],0),([100],1),([108,111,110,103],1)] j from rfl]
  rw [show encAttrs [] = [] from rfl] at L0
  simp [L0,-Int.not_le,-Int.not_lt,-Nat.not_le,-Nat.not_lt,ty3,ty4,ty9,ty23,ty42,ty88,ty92,ty95,eq88,hm,hl,hr,fi16_eq,fi17_eq,E17,q17_22,n17_10]
theorem k17 (l : List Int) (a j id : Nat)  (fr : Fr) (st : St) (h : FeedOk st id) (ha : a < 549755813888) (hj : j < 549755811000) :
    callStep gS (EvF gS) 17 [.ptr id 0] fr (setF st id l (nA l a j)) = some (.ok (.val (.slice (encAttrs (attrsV l a j).1))) (fr.map E.noMem) (setF st id l (nA l a ((attrsV l a j).2)))) := by
  unfold callStep
  simp only [show gS.ext 17 = none from rfl,fi36_eq,show fi17.pure = false from rfl,Bool.false_eq_true,if_false,c17 l a j id  st h ha (by omega),retE]
  all_goals rfl
end
end Go.Proofs.Ytdoobejjedpcgaa
namespace Go.Proofs.Ytdoobejjedpcgaa
open Go Go.Ab
set_option maxRecDepth 20000
noncomputable section
variable (fr : Fr) (st : St) (k : Kt)
def fi40 : FI := { body := codeOf Try.f40,ntmps := 57,results := [.tmp 2],pers := [0,2,3,4,5,6,7],locals := [6],pure := false,marks := [43,1000000] }
theorem fi35_eq : gS.fn 40 = some fi40 := by kernel_rfl
theorem st40 (a0 : V) : startFr fi40 [a0] = { ps := [(0,.val a0),(2,.any),(3,.any),(4,.any),(5,.any),(6,.any),(7,.any)],ts := [],lc := [] } := rfl
def b40 : Code := mini (codeOf Try.f40)
def c40_12 : Code := .cond (.tmp 16) .skip (.exit 0)
def c40_10 : Code := .seq (codeN b40 267) c40_12
def c40_29 : Code := .cond (.tmp 37) .skip (.exit 2)
def c40_27 : Code := .seq (codeN b40 134731) c40_29
def c40_33 : Code := codeN b40 167499
def c40_32 : Code := .block 3 c40_33
def c40_26 : Code := .seq c40_27 c40_32
def c40_25 : Code := .loop c40_26
def r40_37 : Array Oper := regOps (codeN (codeOf Try.f40) 48715)
def c40_37 : Code := .region 11 r40_37 true
def q40_37 : List (Oper × Fl) := [(mv 44 3 29,⟨true,false,true,false,false,false,true,true,false,false,[]⟩),
 (mv 45 7 3,⟨true,false,true,false,false,false,true,true,false,false,[]⟩),
 (op1 46 (.binOp .add 3 (.tmp 45) (.const (.int .i64 1)) 3) 3,⟨true,false,true,false,false,false,true,true,false,false,[]⟩),
 (op1 47 (.slice 29 (.tmp 44) (some (.tmp 46)) none none) 29,⟨true,false,true,false,false,false,true,true,false,false,[]⟩),
 (mv 48 3 29,⟨true,false,true,false,false,false,true,true,false,false,[]⟩),
 (mv 49 7 3,⟨true,false,true,false,true,false,true,true,false,false,[]⟩),
 (op1 50 (.slice 29 (.tmp 48) (some (.tmp 49)) none none) 29,⟨true,false,true,false,true,false,true,true,false,false,[]⟩),
 (op1 51 (.call { callee := (.builtin .copy),args := #[(.tmp 47),(.tmp 50)],argTypes := #[29,29] }) 3,⟨false,true,true,false,true,false,true,true,false,false,[]⟩)]
def c40_38 : Code := codeN b40 65099
def c40_36 : Code := .seq c40_37 c40_38
def c40_34 : Code := .seq (codeN b40 24139) c40_36
theorem e40_34 : evK gS fi40 c40_34 fr st k = opsR gS fi40 [mv 40 3 29,
 op1 41 (.build 91 #[]) 91,
 op1 42 (.buildSlice 29 1 #[(0,(.tmp 41))]) 29,
 op1 43 (.call { callee := (.builtin .append),args := #[(.tmp 40),(.tmp 42)],argTypes := #[29,29] }) 29,
 asn 3 43 29] fr st (.seq c40_36 k) := evK_rs 10 rfl (by kernel_rfl)
def c40_23 : Code := .seq (.block 2 c40_25) c40_34
def c40_21 : Code := .seq (codeN b40 5707) c40_23
def c40_19 : Code := .seq (codeN b40 2635) c40_21
def c40_17 : Code := .seq (codeN b40 1099) c40_19
def c40_39 : Code := codeN b40 459
def c40_15 : Code := .seq (.block 1 c40_17) c40_39
def c40_9 : Code := .seq c40_10 c40_15
def c40_8 : Code := .loop c40_9
def c40_7 : Code := .block 0 c40_8
def c40_5 : Code := .seq (codeN b40 19) c40_7
def c40_40 : Code := .seq (codeN b40 23) .ret
def c40_4 : Code := .seq c40_5 c40_40
def c40_2 : Code := .seq (codeN b40 5) c40_4
def c40_0 : Code := .seq (codeN b40 2) c40_2
theorem E40 : evK gS fi40 c40_12 fr st k = condK gS fi40 (fr.op (.tmp 16)).bool? .skip (.exit 0) fr st k ∧
 (evK gS fi40 c40_10 fr st k = opsR gS fi40 [mv 10 4 3,
 op1 11 (.binOp .gtr 3 (.tmp 10) (.const (.int .i64 0)) 3) 4,
 mv 12 11 4,
 mk (some 13) (.move (.tmp 3)) 29 (some (2,true)),
 mk (some 14) (.call { callee := (.builtin .len),args := #[(.tmp 13)],argTypes := #[29] }) 3 (some (2,true)),
 mk (some 15) (.binOp .lss 3 (.tmp 14) (.const (.int .i64 3)) 3) 4 (some (2,true)),
 op1 16 (.pick (.tmp 12) (.tmp 15) (.const (.bool false))) 4] fr st (.seq c40_12 k)) ∧
 evK gS fi40 c40_29 fr st k = condK gS fi40 (fr.op (.tmp 37)).bool? .skip (.exit 2) fr st k ∧
 (evK gS fi40 c40_27 fr st k = opsR gS fi40 [mv 26 7 3,
 op1 27 (.binOp .gtr 3 (.tmp 26) (.const (.int .i64 0)) 3) 4,
 mv 28 27 4,
 mk (some 29) (.move (.tmp 3)) 29 (some (2,true)),
 mk (some 30) (.move (.tmp 7)) 3 (some (2,true)),
 mk (some 31) (.binOp .sub 3 (.tmp 30) (.const (.int .i64 1)) 3) 3 (some (2,true)),
 mk (some 32) (.indexAddr 29 (.tmp 29) (.tmp 31)) 0 (some (2,true)),
 mk (some 33) (.fieldAddr 91 (.tmp 32) 0) 0 (some (2,true)),
 mk (some 34) (.load 9 (.tmp 33)) 9 (some (2,true)),
 mk (some 35) (.move (.tmp 5)) 9 (some (2,true)),
 mk (some 36) (.binOp .gtr 9 (.tmp 34) (.tmp 35) 9) 4 (some (2,true)),
 op1 37 (.pick (.tmp 28) (.tmp 36) (.const (.bool false))) 4] fr st (.seq c40_29 k)) ∧
 (evK gS fi40 c40_33 fr st k = opsR gS fi40 [mv 38 7 3,
 op1 39 (.binOp .sub 3 (.tmp 38) (.const (.int .i64 1)) 3) 3,
 asn 7 39 3] fr st k) ∧
 evK gS fi40 c40_32 fr st k = evK gS fi40 c40_33 fr st (.blk 3 k) ∧
 evK gS fi40 c40_26 fr st k = evK gS fi40 c40_27 fr st (.seq c40_32 k) ∧
 evK gS fi40 c40_37 fr st k = drwR gS fi40 r40_37 q40_37 fr st k ∧
 (evK gS fi40 c40_38 fr st k = opsR gS fi40 [mv 52 3 29,
 mv 53 7 3,
 ld 54 91 6 91,
 ixa 55 29 52 53 0,
 sto 91 55 54] fr st k) ∧
 evK gS fi40 c40_36 fr st k = evK gS fi40 c40_37 fr st (.seq c40_38 k) ∧
 evK gS fi40 c40_23 fr st k = evK gS fi40 c40_25 fr st (.blk 2 (.seq c40_34 k)) ∧
 (evK gS fi40 c40_21 fr st k = opsR gS fi40 [mv 24 3 29,
 len1 25 24 29 3,
 asn 7 25 3] fr st (.seq c40_23 k)) ∧
 (evK gS fi40 c40_19 fr st k = opsR gS fi40 [mv 21 0 23,
 mv 22 5 9,
 cal 23 71 [(.tmp 21),(.tmp 22)] [23,9] 91,
 op1 6 (.alloc 91) 0,
 sto 91 6 23] fr st (.seq c40_21 k)) ∧
 (evK gS fi40 c40_17 fr st k = opsR gS fi40 [mv 19 0 23,
 cal 20 70 [(.tmp 19)] [23] 9,
 asn 5 20 9] fr st (.seq c40_19 k)) ∧
 (evK gS fi40 c40_39 fr st k = opsR gS fi40 [mv 17 4 3,
 op1 18 (.binOp .sub 3 (.tmp 17) (.const (.int .i64 1)) 3) 3,
 asn 4 18 3] fr st k) ∧
 evK gS fi40 c40_15 fr st k = evK gS fi40 c40_17 fr st (.blk 1 (.seq c40_39 k)) ∧
 evK gS fi40 c40_9 fr st k = evK gS fi40 c40_10 fr st (.seq c40_15 k) ∧
 evK gS fi40 c40_7 fr st k = evK gS fi40 c40_8 fr st (.blk 0 k) ∧
 (evK gS fi40 c40_5 fr st k = opsR gS fi40 [mv 8 0 23,
 cal 9 11 [(.tmp 8),(.const (.int .i64 4))] [23,3] 3,
 asn 4 9 3] fr st (.seq c40_7 k)) ∧
 (evK gS fi40 c40_40 fr st k = opsR gS fi40 [mv 56 3 29,
 asn 2 56 29] fr st (.seq .ret k)) ∧
 evK gS fi40 c40_4 fr st k = evK gS fi40 c40_5 fr st (.seq c40_40 k) ∧
 evK gS fi40 c40_2 fr st k = opsR gS fi40 [op1 3 (.assign (.const (.slice none 0 0))) 29] fr st (.seq c40_4 k) ∧
 evK gS fi40 c40_0 fr st k = opsR gS fi40 [op1 2 (.assign (.const (.slice none 0 0))) 29] fr st (.seq c40_2 k) := ⟨rfl,evK_rs 3 rfl (by kernel_rfl),rfl,evK_rs 8 rfl (by kernel_rfl),evK_r 9 (by kernel_rfl),rfl,rfl,evK_dr 11 rfl (by kernel_rfl) (by kernel_rfl),evK_r 12 (by kernel_rfl),rfl,rfl,evK_rs 7 rfl (by kernel_rfl),evK_rs 6 rfl (by kernel_rfl),evK_rs 5 rfl (by kernel_rfl),evK_r 4 (by kernel_rfl),rfl,rfl,rfl,evK_rs 2 rfl (by kernel_rfl),evK_rs 13 rfl (by kernel_rfl),rfl,evK_rs 1 rfl (by kernel_rfl),evK_rs 0 rfl (by kernel_rfl)⟩
theorem m40 : mini fi40.body = c40_0 := by kernel_rfl
theorem n40_25 (fr : Fr) (st : St) (k : Kt) : nextK gS fi40 (.loop c40_26 k) .normal fr st = evK gS fi40 c40_25 fr st k := rfl
theorem n40_8 (fr : Fr) (st : St) (k : Kt) : nextK gS fi40 (.loop c40_9 k) .normal fr st = evK gS fi40 c40_8 fr st k := rfl
set_option maxHeartbeats 8000000 in
theorem I40 (nm : List UInt8) (f : List Pred) (idl : Nat) (st : St) (ho : St.obj st idl = some (f.flatMap Pred.cells)) (hfn : f.length < 1000) (R : Out × St) (e0 e4 : E) (h0 : e0.Tame) (h4 : e4.Tame) (X : List (Nat × List V)) (at0 : Nat)
    (H : ∀ T,evK gS fi40 c40_34 { ps := [(0,e0),(2,.own 0 []),(3,.val (.sref false 13 idl 0 f.length)),(4,e4),(5,.val (.str nm)),(6,.lp 6 0),(7,.val (.int .i64 at0))],ts := T,lc := X } st (.blk 1 (.seq c40_39 (.loop c40_9 (.blk 0 (.seq c40_40 .nil))))) = some R) :
    ∀ (k : Nat) (T : List (Nat × E)),k ≤ f.length → at0 = insN f nm k →
    evK gS fi40 c40_25 { ps := [(0,e0),(2,.own 0 []),(3,.val (.sref false 13 idl 0 f.length)),(4,e4),(5,.val (.str nm)),(6,.lp 6 0),(7,.val (.int .i64 k))],ts := T,lc := X } st (.blk 2 (.seq c40_34 (.blk 1 (.seq c40_39 (.loop c40_9 (.blk 0 (.seq c40_40 .nil))))))) = some R := by
  intro k
  have hm : fi40.marks = [43,1000000] := rfl
  have hl : fi40.locals = [6] := rfl
  have hr : fi40.results = [.tmp 2] := rfl
  induction k with
  | zero =>
    intro T hk hat
    refine evK_loop c40_26 _ _ _ _ rfl ?_
    have h00 : insN f nm 0 = 0 := rfl
    rw [h00] at hat
    subst hat
    simp only [show ((0 : Nat) : Int) = 0 from rfl] at H ⊢
    simp [-St.obj,-St.set,h0,h4,H,-Int.not_le,-Int.not_lt,-Nat.not_le,-Nat.not_lt,ty3,ty4,ty9,ty23,ty29,ty91,hm,hl,hr,fi16_eq,fi29_eq,fi91_eq,E40,q40_37,n40_25,n40_8]
  | succ k ih =>
    intro T hk hat
    refine evK_loop c40_26 _ _ _ _ rfl ?_
    obtain ⟨x,hx⟩ : ∃ x,f[k]? = some x := ⟨f[k]'(by omega),List.getElem?_eq_getElem (by omega)⟩
    have hget := row_get Pred.cells 13 pcells_len hx (j := 0) (by omega)
    have hc0 : (Pred.cells x)[0]? = some (.str x.name) := rfl
    rw [hc0,Nat.add_zero] at hget
    have hins : insN f nm (k + 1) = if sgt x.name nm then insN f nm k else k + 1 := by
      show (if sgt ((f[k]?).getD ⟨[],0,vzero,vzero,[]⟩).name nm then insN f nm k else k + 1) = _
      rw [hx]; rfl
    rw [hins] at hat
    have hw1 : IntKind.wrap .i64 (((k + 1 : Nat) : Int) - 1) = (k : Int) := by rw [wrap64 (by omega) (by omega)]; omega
    have hp : (0 : Int) < ((k + 1 : Nat) : Int) := by omega
    have hlt : (k : Int) < (f.length : Int) := by omega
    have hlt2 : k < f.length := by omega
    have hsg : (!(Op.bytesLess x.name nm || decide (x.name = nm))) = sgt x.name nm := rfl
    cases hs : sgt x.name nm with
    | true =>
      rw [hs] at hsg hat
      have IH := fun T => ih T (by omega) (by rw [hat]; rfl)
      simp [-Int.natCast_add,-Bool.not_or,-St.obj,-St.set,h0,h4,ho,hget,hw1,hp,hlt,hlt2,hsg,IH,-Int.not_le,-Int.not_lt,-Nat.not_le,-Nat.not_lt,ty3,ty4,ty9,ty23,ty29,ty91,hm,hl,hr,fi16_eq,fi29_eq,fi91_eq,E40,q40_37,n40_25,n40_8]
    | false =>
      rw [hs] at hsg hat
      have hat2 : at0 = k + 1 := by rw [hat]; rfl
      subst hat2
      simp [-Int.natCast_add,-Bool.not_or,-St.obj,-St.set,h0,h4,ho,hget,hw1,hp,hlt,hlt2,hsg,H,-Int.not_le,-Int.not_lt,-Nat.not_le,-Nat.not_lt,ty3,ty4,ty9,ty23,ty29,ty91,hm,hl,hr,fi16_eq,fi29_eq,fi91_eq,E40,q40_37,n40_25,n40_8]
theorem ins_shift (f : List Pred) (z p : Pred) {i : Nat} (hi : i ≤ f.length) :
    (((f ++ [z]).take (i + 1) ++ ((f ++ [z]).drop i).take (f.length - i)).take i ++ [p] ++ ((f ++ [z]).take (i + 1) ++ ((f ++ [z]).drop i).take (f.length - i)).drop (i + 1)) = f.take i ++ p :: f.drop i := by
  have h1 : ((f ++ [z]).take (i + 1)).length = i + 1 := by simp; omega
  rw [List.take_append_of_le_length (by omega),List.take_take,Nat.min_eq_left (by omega),List.take_append_of_le_length hi,List.drop_append,h1,Nat.sub_self,List.drop_zero,List.drop_of_length_le (by omega),List.nil_append]
  rw [List.drop_append_of_le_length hi,List.take_append_of_le_length (by simp),List.take_of_length_le (l := f.drop i) (by simp)]
  simp
set_option maxHeartbeats 8000000 in
theorem T40_34 (f : List Pred) (hne : f ≠ []) (p : Pred) (hfn : f.length < 1000) (i : Nat) (hi : i ≤ f.length) (id m q : Nat) (st : St) (h : FeedOk st id) (l : List Int) (A : Nat) (nm : List UInt8) (r : Nat) (hr : r < 1000) (R : Out × St)
    (e0 : E) (h0 : e0.Tame) (X : List (Nat × List V)) (hx : lk X 6 = some p.cells) (T : List (Nat × E))
    (IH : ∀ T,evK gS fi40 c40_8 { ps := [(0,e0),(2,.own 0 []),(3,.val (.sref false 13 (st.objs.length + (m + 1 + q)) 0 (f.length + 1))),(4,.val (.int .i64 r)),(5,.val (.str nm)),(6,.lp 6 0),(7,.val (.int .i64 i))],ts := T,lc := X } (setF (nw st (m + 1 + q) ((f.take i ++ p :: f.drop i).flatMap Pred.cells)) id l A) (.blk 0 (.seq c40_40 .nil)) = some R) :
    evK gS fi40 c40_34 { ps := [(0,e0),(2,.own 0 []),(3,.val (.sref false 13 (st.objs.length + m) 0 f.length)),(4,.val (.int .i64 ((r + 1 : Nat) : Int))),(5,.val (.str nm)),(6,.lp 6 0),(7,.val (.int .i64 i))],ts := T,lc := X } (setF (dd (nw st m (f.flatMap Pred.cells)) q) id l A) (.blk 1 (.seq c40_39 (.loop c40_9 (.blk 0 (.seq c40_40 .nil))))) = some R := by
  have hm : fi40.marks = [43,1000000] := rfl
  have hl : fi40.locals = [6] := rfl
  have hr : fi40.results = [.tmp 2] := rfl
  have ho := obj_mid h m q (f.flatMap Pred.cells) l A
  have hk := set_mid h m q (f.flatMap Pred.cells) l A
  have hn := fun fr k len cs => newRef_dd h fr (m + 1 + q) k len cs l A
  have hz : f.flatMap Pred.cells ++ [.str [],.int .i64 0,.int .i64 0,.int .i64 0,.float .f64 0,.str [],.bool false,.int .i64 0,.int .i64 0,.float .f64 0,.str [],.bool false,.slice []] = (f ++ [pzero]).flatMap Pred.cells := by simp [pzero,vzero,encVals]
  have hst := row_strip Pred.cells Pred.cells pcells_strip f
  have hon := row_one Pred.cells pcells_one f
  have hle := row_len Pred.cells 13 pcells_len f
  have hfl : 0 < f.length := List.length_pos_iff.2 hne
  have b1 : (f.length + 1) * 144 ≤ 140737488355328 := by omega
  have b2 : f.length + 1 ≤ 140737488355328 := by omega
  have hw1 : IntKind.wrap .i64 ((i : Int) + 1) = ((i + 1 : Nat) : Int) := by rw [wrap64 (by omega) (by omega)]; omega
  have hw2 : IntKind.wrap .i64 (((r + 1 : Nat) : Int) - 1) = (r : Int) := by rw [wrap64 (by omega) (by omega)]; omega
  have ho2 := obj_gr h (m + 1 + q) ((f ++ [pzero]).flatMap Pred.cells) l A
  have hel := elems_row ho2 false (i := i) (by simp; omega)
  rw [List.length_append,List.length_singleton] at hel
  have hlen : (f ++ [pzero]).length = f.length + 1 := by simp
  generalize hE0 : f ++ [pzero] = E0 at *
  have hsh := ins_shift f pzero p hi
  rw [hE0] at hsh
  have hs1 := sizes_preds (E0.drop i)
  have hdl : (E0.drop i).length = f.length + 1 - i := by simp [hlen]
  have c1 : ((i + 1 : Nat) : Int) ≤ (f.length : Int) + 1 := by omega
  have c2 : (i : Int) ≤ (f.length : Int) + 1 := by omega
  have c3 : (i : Int) < (f.length : Int) + 1 := by omega
  have hst2 := fun cs cs' => set_gr' h (m + 1 + q) cs cs' l A
  have hspl := row_splices Pred.cells 13 pcells_len E0 ((E0.drop i).take (f.length - i)) (i + 1) (by rw [List.length_take,hdl,hlen]; omega)
  have hE1 : E0.take (i + 1) ++ (E0.drop i).take (f.length - i) ++ E0.drop (i + 1 + ((E0.drop i).take (f.length - i)).length) = E0.take (i + 1) ++ (E0.drop i).take (f.length - i) := by
    have hd0 : E0.drop (i + 1 + ((E0.drop i).take (f.length - i)).length) = [] := List.drop_of_length_le (by rw [List.length_take,hdl,hlen]; omega)
    rw [hd0,List.append_nil]
  rw [hE1] at hspl
  generalize hE1g : E0.take (i + 1) ++ (E0.drop i).take (f.length - i) = E1 at *
  have hl1 : E1.length = f.length + 1 := by rw [← hE1g,List.length_append,List.length_take,List.length_take,hdl,hlen]; omega
  have hspl2 := row_splices Pred.cells 13 pcells_len E1 [p] i (by rw [hl1,List.length_singleton]; omega)
  rw [List.length_singleton,hsh] at hspl2
  have hpc : [p].flatMap Pred.cells = p.cells := by simp
  rw [hpc] at hspl2
  simp only [Pred.cells] at hspl2 hx
  have hmc : ∀ k,((encPreds (E0.drop i)).take k).flatMap V.cells = ((E0.drop i).take k).flatMap Pred.cells := fun k => by
    rw [show (encPreds (E0.drop i)).take k = encPreds ((E0.drop i).take k) from by simp [encPreds],enc_cells]
  have hone := row_one Pred.cells pcells_one ((E0.drop i).take (f.length - i))
  have hrl := row_len Pred.cells 13 pcells_len ((E0.drop i).take (f.length - i))
  have ho1 := obj_gr h (m + 1 + q) (E1.flatMap Pred.cells) l A
  have hcp : ∀ n : Nat,(f.length + 1 - i - (n + 1)) = f.length - i - n := fun n => by omega
  have hsz : splice [.str [],.int .i64 0,.int .i64 0,.int .i64 0,.float .f64 0,.str [],.bool false,.int .i64 0,.int .i64 0,.float .f64 0,.str [],.bool false,.osl 0 []] 0 [.str [],.int .i64 0,.int .i64 0,.int .i64 0,.float .f64 0,.str [],.bool false,.int .i64 0,.int .i64 0,.float .f64 0,.str [],.bool false,.slice []] = some [.str [],.int .i64 0,.int .i64 0,.int .i64 0,.float .f64 0,.str [],.bool false,.int .i64 0,.int .i64 0,.float .f64 0,.str [],.bool false,.slice []] := rfl
  have heo : ∀ (ea : Bool) (k : Nat) (st : St) (n : Nat) (xs : List V),elemsAt ea k st (.own n xs) = some xs := fun _ _ _ _ _ => rfl
  by_cases hil : i = f.length
  · have hE01 : E1 = E0 := by
      rw [← hE1g,hil,Nat.sub_self,List.take_zero,List.append_nil,List.take_of_length_le (by omega)]
    subst hil
    rw [Nat.add_sub_cancel_left] at hel
    rw [hE01] at hspl2
    clear hE1 hE1g hspl hsh hone hrl ho1 hcp hmc hpc
    have hd1 : (E0.drop f.length).length = 1 := by rw [hdl]; omega
    simp [-Int.natCast_add,-St.obj,-St.set,-splice,h0,ho,hk,hn,hz,hst,hon,hle,hfl,b1,b2,hw1,hw2,ho2,hel,hlen,hs1,hd1,hspl2,hst2,hsz,heo,copyStep,markStep,markAppend,hx,IH,-Int.not_le,-Int.not_lt,-Nat.not_le,-Nat.not_lt,ty3,ty4,ty9,ty23,ty29,ty91,hm,hl,hr,fi16_eq,fi29_eq,fi91_eq,E40,q40_37,e40_34,n40_25,n40_8]
    simpa [Pred.cells] using IH [(18,.val (.int .i64 (r : Int))),(17,.val (.int .i64 ((r + 1 : Nat) : Int)))]
  · have hmin : min (f.length + 1 - i) (f.length - i) = f.length - i := by omega
    have hlei : ¬ f.length ≤ i := by omega
    have hne0 : ¬ (f.length - i = 0) := by omega
    have hrl2 : (((E0.drop i).take (f.length - i)).flatMap Pred.cells).length = (f.length - i) * 13 := by rw [hrl,List.length_take,hdl]; congr 1; omega
    have hpos2 : 0 < (f.length - i) * 13 := by omega
    have hpos3 : i < f.length := by omega
    have c6 : ((i + 1 : Nat) : Int) ≤ ((f.length + 1 : Nat) : Int) := by omega
    have c7 : (i : Int) ≤ ((f.length + 1 : Nat) : Int) := by omega
    have c8 : (i : Int) < ((f.length + 1 : Nat) : Int) := by omega
    have c9 : (0 : Int) ≤ ((i + 1 : Nat) : Int) := by omega
    have c10 : ¬ i = f.length + 1 := by omega
    simp [-Int.natCast_add,-List.flatMap_append,-St.obj,-St.set,-splice,h0,ho,hk,hn,hz,hst,hon,hle,hfl,b1,b2,hw1,hw2,ho1,ho2,hel,hlen,hs1,hdl,hmin,hlei,hne0,hrl2,hpos2,hpos3,hil,c6,c7,c8,c9,c10,hmc,hone,hspl,hspl2,hst2,hsz,heo,copyStep,markStep,markAppend,hx,-Int.not_le,-Int.not_lt,-Nat.not_le,-Nat.not_lt,ty3,ty4,ty9,ty23,ty29,ty91,hm,hl,hr,fi16_eq,fi29_eq,fi91_eq,E40,q40_37,e40_34,n40_25,n40_8]
    exact IH _
set_option maxHeartbeats 8000000 in
theorem L40 (l : List Int) (a id : Nat) (ha : a < 549755813888) (st : St) (h : FeedOk st id) : ∀ (r j m : Nat) (f : List Pred) (e5 e6 e7 : E) (T : List (Nat × E)) (X : List (Nat × List V)) (h5 : e5.Tame) (h6 : e6.Tame) (h7 : e7.Tame),f ≠ [] → f.length + r ≤ 3 → j + 20 * r < 549755810000 →
    evK gS fi40 c40_8 { ps := [(0,.val (.ptr id 0)),(2,.own 0 []),(3,.val (.sref false 13 (st.objs.length + m) 0 f.length)),(4,.val (.int .i64 r)),(5,e5),(6,e6),(7,e7)],ts := T,lc := X } (setF (nw st m (f.flatMap Pred.cells)) id l (nA l a j)) (.blk 0 (.seq c40_40 .nil)) = some (.ret (.slice (encPreds (filterG l a r j (m + 1) f).1)) none,setF (dd st (filterG l a r j (m + 1) f).2.2) id l (nA l a (filterG l a r j (m + 1) f).2.1)) := by
  intro r
  have hm : fi40.marks = [43,1000000] := rfl
  have hl : fi40.locals = [6] := rfl
  have hr : fi40.results = [.tmp 2] := rfl
  induction r with
  | zero =>
    intro j m f e5 e6 e7 T X h5 h6 h7 hne hlr hj
    refine evK_loop c40_9 _ _ _ _ rfl ?_
    have hz := frz_preds 5 (st.objs.length + m) f hne (obj_gr h m _ l (nA l a j)) (set_gr h m _ l (nA l a j))
    rw [show filterG l a 0 j (m + 1) f = (f,j,m + 1) from rfl]
    simp [-St.obj,-St.set,h5,h6,h7,hz,-Int.not_le,-Int.not_lt,-Nat.not_le,-Nat.not_lt,ty3,ty4,ty9,ty23,ty29,ty91,hm,hl,hr,fi16_eq,fi29_eq,fi91_eq,E40,q40_37,e40_34,n40_25,n40_8]
  | succ r ih =>
    intro j m f e5 e6 e7 T X h5 h6 h7 hne hlr hj
    refine evK_loop c40_9 _ _ _ _ rfl ?_
    have hn := fun fr => k70 l a j id fr (nw st m (f.flatMap Pred.cells)) (h.nw m _) ha (by omega)
    have hp := fun fr => k71 l a (j + 1) id (nameV l a j) fr (nw st m (f.flatMap Pred.cells)) (h.nw m _) ha (by omega)
    have hg : filterG l a (r + 1) j (m + 1) f = filterG l a r (j + 1 + (predV l a (j + 1) (nameV l a j)).2) (m + 1 + (predV l a (j + 1) (nameV l a j)).1.set.length + 1) (insP f (predV l a (j + 1) (nameV l a j)).1 (nameV l a j)) := rfl
    rw [hg]
    have hpa := pred_asks l a (j + 1) (nameV l a j)
    generalize nameV l a j = nm at *
    generalize predV l a (j + 1) nm = P at *
    obtain ⟨p,k⟩ := P
    simp only at hp hg hpa ⊢
    have c1 : (0 : Int) < ((r + 1 : Nat) : Int) := by omega
    have c2 : (f.length : Int) < 3 := by omega
    have c3 : f.length < 3 := by omega
    have hil := insP_length f p nm
    have hi := insN_le f nm f.length
    have ipe : insP f p nm ≠ [] := by intro e; rw [e] at hil; simp at hil
    have IH := fun T X => ih (j + 1 + k) (m + 1 + p.set.length) (insP f p nm) (.val (.str nm)) (.lp 6 0) (.val (.int .i64 (insN f nm f.length))) T X rfl rfl rfl ipe (by rw [hil]; omega) (by omega)
    rw [hil] at IH
    simp only [insP] at IH ⊢
    have TT := fun X hx T => T40_34 f hne p (by omega) (insN f nm f.length) hi id m p.set.length st h l (nA l a (j + 1 + k)) nm r (by omega) _ (.val (.ptr id 0)) rfl X hx T (fun T => IH T X)
    have II := fun X hx T => I40 nm f (st.objs.length + m) (setF (dd (nw st m (f.flatMap Pred.cells)) p.set.length) id l (nA l a (j + 1 + k))) (obj_mid h m p.set.length _ l _) (by omega) _ (.val (.ptr id 0)) (.val (.int .i64 ((r + 1 : Nat) : Int))) rfl rfl X (insN f nm f.length) (fun T => TT X hx T) f.length T (Nat.le_refl _) rfl
    simp [-Int.natCast_add,-St.obj,-St.set,-List.flatMap_append,h5,h6,h7,hn,hp,c1,c2,c3,-Int.not_le,-Int.not_lt,-Nat.not_le,-Nat.not_lt,ty3,ty4,ty9,ty23,ty29,ty91,hm,hl,hr,fi16_eq,fi29_eq,fi91_eq,E40,q40_37,e40_34,n40_25,n40_8]
    refine II _ ?_ _
    simp
set_option maxHeartbeats 8000000 in
theorem c40 (l : List Int) (a j id : Nat) (st : St) (h : FeedOk st id) (ha : a < 549755813888) (hj : j < 549755809000) :
    EvF gS 40 [.ptr id 0] (setF st id l (nA l a j)) = some (.ret (.slice (encPreds (filterV l a j).1)) none,setF (dd st (filterV l a j).2.2) id l (nA l a (filterV l a j).2.1)) := by
  refine EvF_start fi35_eq (fun x h => by cases h) m40 ?_
  rw [st40]
  have hm : fi40.marks = [43,1000000] := rfl
  have hl : fi40.locals = [6] := rfl
  have hr : fi40.results = [.tmp 2] := rfl
  have hb := fd_bound l a j (n := 4) (by omega)
  have hk := fun fr => k11 l a j id 4 fr st h ha (by omega) (by omega)
  unfold filterV
  generalize fd l a j 4 = z at *
  obtain ⟨r,rfl⟩ : ∃ r : Nat,z = (r : Int) := ⟨z.toNat,by omega⟩
  rw [Int.toNat_natCast]
  simp [-St.obj,-St.set,hk,-Int.not_le,-Int.not_lt,-Nat.not_le,-Nat.not_lt,ty3,ty4,ty9,ty23,ty29,ty91,hm,hl,hr,fi16_eq,fi29_eq,fi91_eq,E40,q40_37,e40_34,n40_25,n40_8]
  cases r with
  | zero =>
    refine evK_loop c40_9 _ _ _ _ rfl ?_
    have hz : ∀ st,frz 6 st (.slice []) = some (.slice [],st) := fun st => frz_flat 6 st _ rfl
    rw [show filterG l a 0 (j + 1) 0 [] = ([],j + 1,0) from rfl]
    simp [-St.obj,-St.set,hz,dd_zero,encPreds,-Int.not_le,-Int.not_lt,-Nat.not_le,-Nat.not_lt,ty3,ty4,ty9,ty23,ty29,ty91,hm,hl,hr,fi16_eq,fi29_eq,fi91_eq,E40,q40_37,e40_34,n40_25,n40_8]
  | succ r =>
    refine evK_loop c40_9 _ _ _ _ rfl ?_
    have hn := fun fr => k70 l a (j + 1) id fr st h ha (by omega)
    have hp := fun fr => k71 l a (j + 1 + 1) id (nameV l a (j + 1)) fr st h ha (by omega)
    have hg : filterG l a (r + 1) (j + 1) 0 [] = filterG l a r (j + 1 + 1 + (predV l a (j + 1 + 1) (nameV l a (j + 1))).2) (0 + (predV l a (j + 1 + 1) (nameV l a (j + 1))).1.set.length + 1) (insP [] (predV l a (j + 1 + 1) (nameV l a (j + 1))).1 (nameV l a (j + 1))) := rfl
    rw [hg]
    have hpa := pred_asks l a (j + 1 + 1) (nameV l a (j + 1))
    generalize nameV l a (j + 1) = nm at *
    generalize predV l a (j + 1 + 1) nm = P at *
    obtain ⟨p,k⟩ := P
    simp only at hp hg hpa ⊢
    rw [show insP [] p nm = [p] from rfl,Nat.zero_add]
    have c1 : (0 : Int) < ((r + 1 : Nat) : Int) := by omega
    have LL := fun e5 e6 e7 T X h5 h6 h7 => L40 l a id ha st h r (j + 1 + 1 + k) p.set.length [p] e5 e6 e7 T X h5 h6 h7 (by simp) (by simp; omega) (by omega)
    have hpc : [p].flatMap Pred.cells = p.cells := by simp
    rw [hpc] at LL
    simp only [Pred.cells,List.length_singleton] at LL
    have hnr := fun fr kk len cs => newRef_dd h fr p.set.length kk len cs l (nA l a (j + 1 + 1 + k))
    have ho2 := fun cs => obj_gr h p.set.length cs l (nA l a (j + 1 + 1 + k))
    have hst2 := fun cs cs' => set_gr' h p.set.length cs cs' l (nA l a (j + 1 + 1 + k))
    have heo : ∀ (ea : Bool) (k : Nat) (st : St) (n : Nat) (xs : List V),elemsAt ea k st (.own n xs) = some xs := fun _ _ _ _ _ => rfl
    have hw2 : IntKind.wrap .i64 (((r + 1 : Nat) : Int) - 1) = (r : Int) := by rw [wrap64 (by omega) (by omega)]; omega
    have hel1 : elemsAt true 13 (setF (nw st p.set.length [.str [],.int .i64 0,.int .i64 0,.int .i64 0,.float .f64 0,.str [],.bool false,.int .i64 0,.int .i64 0,.float .f64 0,.str [],.bool false,.slice []]) id l (nA l a (j + 1 + 1 + k))) (.val (.sref false 13 (st.objs.length + p.set.length) 0 1)) = some (encPreds [pzero]) := elems_row (l := [pzero]) (ho2 _) false (i := 0) (Nat.zero_le _)
    have hs1 := sizes_preds [pzero]
    simp [-Int.natCast_add,-St.obj,-St.set,hn,hp,c1,-Int.not_le,-Int.not_lt,-Nat.not_le,-Nat.not_lt,ty3,ty4,ty9,ty23,ty29,ty91,hm,hl,hr,fi16_eq,fi29_eq,fi91_eq,E40,q40_37,e40_34,n40_25,n40_8]
    refine evK_loop c40_26 _ _ _ _ rfl ?_
    simp [-Int.natCast_add,-St.obj,-St.set,hnr,ho2,hst2,heo,hw2,w64_1,hel1,hs1,copyStep,markStep,markAppend,-Int.not_le,-Int.not_lt,-Nat.not_le,-Nat.not_lt,ty3,ty4,ty9,ty23,ty29,ty91,hm,hl,hr,fi16_eq,fi29_eq,fi91_eq,E40,q40_37,e40_34,n40_25,n40_8]
    exact LL _ _ _ _ _ rfl rfl rfl
theorem k40 (l : List Int) (a j id : Nat) (fr : Fr) (st : St) (h : FeedOk st id) (ha : a < 549755813888) (hj : j < 549755809000) :
    callStep gS (EvF gS) 40 [.ptr id 0] fr (setF st id l (nA l a j)) = some (.ok (.val (.slice (encPreds (filterV l a j).1))) (fr.map E.noMem) (setF (dd st (filterV l a j).2.2) id l (nA l a (filterV l a j).2.1))) := by
  unfold callStep
  simp only [show gS.ext 40 = none from rfl,fi35_eq,show fi40.pure = false from rfl,Bool.false_eq_true,if_false,c40 l a j id st h ha hj,retE]
  all_goals rfl
end
end Go.Proofs.Ytdoobejjedpcgaa
namespace Go.Ab
open Go
def okNames : Bool := N4.all fun x => N4.all fun y => (N4.all fun z => sgt x y || sgt y z || !sgt x z) && (!sgt x y || !sgt y x) && isWord x
theorem names_ok : okNames = true := by kernel_rfl
def NM (x : List UInt8) : Prop := x ∈ N4
theorem nm_trans {x y z : List UInt8} (hx : NM x) (hy : NM y) (hz : NM z) (h1 : sgt x y = false) (h2 : sgt y z = false) : sgt x z = false := by
  have := List.all_eq_true.1 (List.all_eq_true.1 names_ok x hx) y hy
  simp only [Bool.and_eq_true] at this
  have := List.all_eq_true.1 this.1.1 z hz
  rw [h1,h2] at this
  simpa using this
theorem nm_asym {x y : List UInt8} (hx : NM x) (hy : NM y) (h : sgt x y = true) : sgt y x = false := by
  have := List.all_eq_true.1 (List.all_eq_true.1 names_ok x hx) y hy
  simp only [Bool.and_eq_true] at this
  have := this.1.2
  rw [h] at this
  simpa using this
theorem nm_word {x : List UInt8} (hx : NM x) : isWord x = true := by
  have := List.all_eq_true.1 (List.all_eq_true.1 names_ok x hx) x hx
  simp only [Bool.and_eq_true] at this
  exact this.2
theorem nameV_nm (l : List Int) (a j : Nat) : NM (nameV l a j) := by
  unfold NM nameV
  have hlt : (fd l a j 12).toNat / 3 % 4 < N4.length := by show _ < 4; omega
  rw [List.getD_eq_getElem?_getD,List.getElem?_eq_getElem hlt]
  exact List.getElem_mem hlt
structure FFV (f : List Pred) : Prop where
  right : ∀ p ∈ f,pright p = true
  fv : ∀ p ∈ f,PFV p
  nm : ∀ p ∈ f,NM p.name
  srt : f.Pairwise fun x y => sgt x.name y.name = false
theorem ffv_nil : FFV [] := ⟨by simp,by simp,by simp,List.Pairwise.nil⟩
theorem insN_above (f : List Pred) (nm : List UInt8) : ∀ (k i : Nat) (p : Pred),insN f nm k ≤ i → i < k → f[i]? = some p → sgt p.name nm = true
  | 0,i,p,_,h,_ => by omega
  | k + 1,i,p,h1,h2,hp => by
    unfold insN at h1
    split at h1
    · rename_i hs
      by_cases hik : i = k
      · subst hik; rw [hp] at hs; exact hs
      · exact insN_above f nm k i p h1 (by omega) hp
    · omega
theorem insN_below (f : List Pred) (nm : List UInt8) : ∀ (k : Nat) (p : Pred),k ≤ f.length → 0 < insN f nm k → f[insN f nm k - 1]? = some p → sgt p.name nm = false
  | 0,p,_,h,_ => by simp [insN] at h
  | k + 1,p,hk,h,hp => by
    unfold insN at h hp
    split at h
    · rename_i hs
      rw [if_pos hs] at hp
      exact insN_below f nm k p (by omega) h hp
    · rename_i hs
      rw [if_neg hs,Nat.add_sub_cancel] at hp
      rw [hp] at hs
      simpa using hs
theorem ins_ffv {f : List Pred} (h : FFV f) {p : Pred} (h1 : pright p = true) (h2 : PFV p) (h3 : NM p.name) : FFV (insP f p p.name) := by
  have hle := insN_le f p.name f.length
  have hab := insN_above f p.name f.length
  have hbe := insN_below f p.name f.length
  unfold insP
  generalize hi : insN f p.name f.length = i at *
  have mem : ∀ x,x ∈ f.take i ++ p :: f.drop i → x ∈ f ∨ x = p := by
    intro x hx
    rcases List.mem_append.1 hx with hx | hx
    · exact .inl (List.mem_of_mem_take hx)
    · rcases List.mem_cons.1 hx with hx | hx
      · exact .inr hx
      · exact .inl (List.mem_of_mem_drop hx)
  refine ⟨fun x hx => ?_,fun x hx => ?_,fun x hx => ?_,?_⟩
  · rcases mem x hx with h' | rfl
    · exact h.right x h'
    · exact h1
  · rcases mem x hx with h' | rfl
    · exact h.fv x h'
    · exact h2
  · rcases mem x hx with h' | rfl
    · exact h.nm x h'
    · exact h3
  · have hs := h.srt
    have hsp : f.take i ++ f.drop i = f := List.take_append_drop i f
    rw [← hsp] at hs
    rw [List.pairwise_append] at hs ⊢
    obtain ⟨s1,s2,s3⟩ := hs
    have low : ∀ x ∈ f.take i,sgt x.name p.name = false := by
      intro x hx
      have hpos : 0 < i := by
        cases i with
        | zero => simp at hx
        | succ i => omega
      have hlast : i - 1 < f.length := by omega
      have hb := hbe (f[i - 1]) (Nat.le_refl _) hpos (List.getElem?_eq_getElem hlast)
      obtain ⟨j,hj,rfl⟩ := List.getElem_of_mem hx
      rw [List.length_take] at hj
      rw [List.getElem_take]
      by_cases hji : j = i - 1
      · subst hji; exact hb
      · have hlt : j < i - 1 := by omega
        have hp := List.pairwise_iff_getElem.1 h.srt j (i - 1) (by omega) hlast hlt
        exact nm_trans (h.nm _ (List.getElem_mem _)) (h.nm _ (List.getElem_mem _)) h3 hp hb
    have high : ∀ x ∈ f.drop i,sgt p.name x.name = false := by
      intro x hx
      obtain ⟨j,hj,rfl⟩ := List.getElem_of_mem hx
      rw [List.length_drop] at hj
      rw [List.getElem_drop]
      have := hab (i + j) (f[i + j]'(by omega)) (by omega) (by omega) (List.getElem?_eq_getElem _)
      exact nm_asym (h.nm _ (List.getElem_mem _)) h3 this
    refine ⟨s1,List.pairwise_cons.2 ⟨fun x hx => high x hx,s2⟩,fun x hx y hy => ?_⟩
    rcases List.mem_cons.1 hy with rfl | hy
    · exact low x hx
    · exact s3 x hx y hy
theorem predV_name (l : List Int) (a j : Nat) (nm : List UInt8) : (predV l a j nm).1.name = nm := by
  unfold predV
  simp only
  repeat' split
  all_goals rfl
theorem filterG_ffv (l : List Int) (a : Nat) : ∀ (n j d : Nat) (f : List Pred),FFV f → FFV (filterG l a n j d f).1 ∧ (filterG l a n j d f).1.length = f.length + n
  | 0,j,d,f,h => ⟨h,rfl⟩
  | n + 1,j,d,f,h => by
    have hn := nameV_nm l a j
    have hp := predV_name l a (j + 1) (nameV l a j)
    have h2 := ins_ffv h (p := (predV l a (j + 1) (nameV l a j)).1) (pred_right _ _ _ (nm_word hn)) (pred_fv _ _ _ _) (by rw [hp]; exact hn)
    rw [hp] at h2
    have := filterG_ffv l a n (j + 1 + (predV l a (j + 1) (nameV l a j)).2) (d + (predV l a (j + 1) (nameV l a j)).1.set.length + 1) _ h2
    refine ⟨this.1,?_⟩
    have h3 := this.2
    rw [insP_length] at h3
    show (filterG l a n _ _ _).1.length = _
    omega
theorem filterV_ffv (l : List Int) (a j : Nat) : FFV (filterV l a j).1 ∧ (filterV l a j).1.length ≤ 3 := by
  have hb := fd_bound l a j (n := 4) (by omega)
  have := filterG_ffv l a (fd l a j 4).toNat (j + 1) 0 [] ffv_nil
  refine ⟨this.1,?_⟩
  have h2 := this.2
  simp only [List.length_nil,Nat.zero_add] at h2
  unfold filterV
  omega
theorem filterG_bounds (l : List Int) (a : Nat) : ∀ (n j d : Nat) (f : List Pred),(filterG l a n j d f).2.1 ≤ j + 11 * n ∧ (filterG l a n j d f).2.2 ≤ d + 5 * n
  | 0,j,d,f => ⟨by simp [filterG],by simp [filterG]⟩
  | n + 1,j,d,f => by
    have h1 := pred_asks l a (j + 1) (nameV l a j)
    have hn := nm_word (nameV_nm l a j)
    have h2 : (predV l a (j + 1) (nameV l a j)).1.set.length ≤ 4 := by
      have hr := pred_right l a (j + 1) hn
      generalize (predV l a (j + 1) (nameV l a j)).1 = p at hr ⊢
      unfold pright at hr
      split at hr
      · repeat' split at hr
        all_goals first
          | (simp only [Bool.and_eq_true,decide_eq_true_eq] at hr; omega)
          | cases hr
      · cases hr
    have := filterG_bounds l a n (j + 1 + (predV l a (j + 1) (nameV l a j)).2) (d + (predV l a (j + 1) (nameV l a j)).1.set.length + 1) (insP f (predV l a (j + 1) (nameV l a j)).1 (nameV l a j))
    unfold filterG
    omega
theorem filterV_asks (l : List Int) (a j : Nat) : (filterV l a j).2.1 ≤ j + 34 := by
  have hb := fd_bound l a j (n := 4) (by omega)
  have := (filterG_bounds l a (fd l a j 4).toNat (j + 1) 0 []).1
  unfold filterV
  omega
theorem attrsG_asks (l : List Int) (a : Nat) : ∀ (q : List (List UInt8 × Int)) (j : Nat),(attrsG l a q j).2 ≤ j + 3 * q.length
  | [],j => by simp [attrsG]
  | (nm,x) :: r,j => by
    have h1 := attrsG_asks l a r (j + 3)
    have h2 := attrsG_asks l a r (j + 1)
    unfold attrsG
    split
    · simp only [List.length_cons]; omega
    · simp only [List.length_cons]; omega
theorem attrsV_asks (l : List Int) (a j : Nat) : (attrsV l a j).2 ≤ j + 15 := attrsG_asks l a A5 j
theorem attrsG_len (l : List Int) (a : Nat) : ∀ (q : List (List UInt8 × Int)) (j : Nat),(attrsG l a q j).1.length ≤ q.length
  | [],j => by simp [attrsG]
  | (nm,x) :: r,j => by
    have h1 := attrsG_len l a r (j + 3)
    have h2 := attrsG_len l a r (j + 1)
    unfold attrsG
    split
    · simp only [List.length_cons]; omega
    · simp only [List.length_cons]; omega
theorem attrsV_len (l : List Int) (a j : Nat) : (attrsV l a j).1.length ≤ 5 := attrsG_len l a A5 j
theorem vsame_refl (v : Val) : vsame v v = true := by simp [vsame]
theorem sames_refl : ∀ l : List Val,sames l l = true
  | [] => rfl
  | x :: r => by simp [sames,vsame_refl,sames_refl r]
end Go.Ab
namespace Go.Ab
open Go
theorem dd_nw_set (st : St) (m k : Nat) (cs cs' : List V) (h : st.wp ≤ st.objs.length) : St.set (dd (nw st m cs) k) (st.objs.length + m) cs' = some (dd (nw st m cs') k) := by
  unfold St.set
  rw [if_pos (by rw [dd_wp,gr_wp]; omega)]
  unfold dd nw
  simp only [Option.some.injEq,St.mk.injEq,and_true]
  rw [List.append_assoc,List.set_append_right _ _ (by omega),Nat.add_sub_cancel_left,List.append_assoc,List.set_append_right _ _ (by simp),List.length_replicate,Nat.sub_self]
  simp only [List.singleton_append,List.set_cons_zero,List.append_assoc]
theorem set_mid' {st : St} {id : Nat} (h : FeedOk st id) (m k : Nat) (cs cs' : List V) (l : List Int) (a : Nat) : St.set (setF (dd (nw st m cs) k) id l a) (st.objs.length + m) cs' = some (setF (dd (nw st m cs') k) id l a) := by
  have h1 := h.1
  have h2 := h.2
  have hk := dd_nw_set st m k cs cs' (by omega)
  unfold St.set at hk ⊢
  rw [if_pos (by rw [dd_wp,gr_wp]; omega)] at hk
  rw [if_pos (by rw [setF_wp,dd_wp,gr_wp]; omega)]
  have hk2 := Option.some.inj hk
  congr 1
  rw [← hk2]
  unfold setF
  simp only [St.mk.injEq,and_true]
  rw [List.set_comm _ _ (by omega)]
end Go.Ab
namespace Go.Ab
open Go
def Apt (a b : List Pred) : Prop := fcovers a b = false ∧ fcovers b a = false
structure Row (row : List (List Pred)) : Prop where
  apart : row.Pairwise Apt
end Go.Ab
namespace Go.Ab
open Go
structure Sub where
  client : Int
  broker : Int
  num : Int
  filter : List Pred
  deriving Inhabited
structure Grp where
  filter : List Pred
  clients : List Int
  deriving Inhabited
def Sub.cells (s : Sub) : List V := [.int .i64 s.client,.int .i64 s.broker,.int .i64 s.num,.slice (encPreds s.filter)]
def Sub.enc (s : Sub) : V := .agg s.cells
def encSubs (l : List Sub) : List V := l.map Sub.enc
def Grp.cells (s : Grp) : List V := [.slice (encPreds s.filter),.slice (intVs s.clients)]
def Grp.enc (s : Grp) : V := .agg s.cells
def encGrps (l : List Grp) : List V := l.map Grp.enc
theorem encSubs_length (l : List Sub) : (encSubs l).length = l.length := by simp [encSubs]
theorem encSubs_get (l : List Sub) (i : Nat) : (encSubs l)[i]? = (l[i]?).map Sub.enc := by simp [encSubs]
theorem encSubs_gE (l : List Sub) (i : Nat) (h : i < (encSubs l).length) : (encSubs l)[i]'h = (l[i]'(by rw [encSubs_length] at h; exact h)).enc := by simp [encSubs]
theorem flat_sub (v : Sub) : v.enc.flat = true := by simp [Sub.enc,Sub.cells,V.flat,flats]
theorem flats_subs (l : List Sub) : flats (encSubs l) = true := by
  induction l with
  | nil => rfl
  | cons x r ih => simp only [encSubs,List.map_cons,flats,flat_sub] at ih ⊢; exact ih
theorem encGrps_length (l : List Grp) : (encGrps l).length = l.length := by simp [encGrps]
theorem encGrps_get (l : List Grp) (i : Nat) : (encGrps l)[i]? = (l[i]?).map Grp.enc := by simp [encGrps]
theorem encGrps_gE (l : List Grp) (i : Nat) (h : i < (encGrps l).length) : (encGrps l)[i]'h = (l[i]'(by rw [encGrps_length] at h; exact h)).enc := by simp [encGrps]
theorem flat_grp (v : Grp) : v.enc.flat = true := by simp [Grp.enc,Grp.cells,V.flat,flats]
theorem flats_grps (l : List Grp) : flats (encGrps l) = true := by
  induction l with
  | nil => rfl
  | cons x r ih => simp only [encGrps,List.map_cons,flats,flat_grp] at ih ⊢; exact ih
attribute [simp] encSubs_length encSubs_get encSubs_gE flat_sub flats_subs encGrps_length encGrps_get encGrps_gE flat_grp flats_grps Sub.enc Sub.cells Grp.enc Grp.cells
theorem sizes_subs (l : List Sub) : sizesOk 4 (encSubs l) = true := by
  induction l with
  | nil => rfl
  | cons x r ih => simp only [encSubs,List.map_cons,sizesOk] at ih ⊢; rw [ih]; rfl
theorem sizes_grps (l : List Grp) : sizesOk 2 (encGrps l) = true := by
  induction l with
  | nil => rfl
  | cons x r ih => simp only [encGrps,List.map_cons,sizesOk] at ih ⊢; rw [ih]; rfl
theorem sizes_ints (l : List Int) : sizesOk 1 (intVs l) = true := by
  induction l with
  | nil => rfl
  | cons x r ih => simp only [intVs,List.map_cons,sizesOk] at ih ⊢; rw [ih]; rfl
theorem grps_snoc (l : List Grp) (x : Grp) : encGrps l ++ [.agg [.slice (encPreds x.filter),.slice (intVs x.clients)]] = encGrps (l ++ [x]) := by simp [encGrps]
theorem ints_snoc (l : List Int) (x : Int) : intVs l ++ [.int .i64 x] = intVs (l ++ [x]) := by simp [intVs]
theorem ints_append (l m : List Int) : intVs l ++ intVs m = intVs (l ++ m) := by simp [intVs]
theorem ints_take (l : List Int) (n : Nat) : (intVs l).take n = intVs (l.take n) := by simp [intVs]
theorem ints_drop (l : List Int) (n : Nat) : (intVs l).drop n = intVs (l.drop n) := by simp [intVs]
def layI : List Int → Int → List Int
  | [],n => [n]
  | x :: r,n => if x < n then x :: layI r n else if x = n then x :: r else n :: x :: r
def rising (l : List Int) : Prop := l.Pairwise (· < ·)
theorem layI_mem : ∀ {l : List Int} {n x : Int},x ∈ layI l n ↔ x = n ∨ x ∈ l
  | [],n,x => by simp [layI]
  | y :: r,n,x => by
    unfold layI
    split
    · rw [List.mem_cons,layI_mem,List.mem_cons]
      constructor
      · rintro (h | h | h)
        · exact .inr (.inl h)
        · exact .inl h
        · exact .inr (.inr h)
      · rintro (h | h | h)
        · exact .inr (.inl h)
        · exact .inl h
        · exact .inr (.inr h)
    · split
      · rename_i h; subst h; simp
      · simp
theorem layI_rising : ∀ {l : List Int} {n : Int},rising l → rising (layI l n)
  | [],n,_ => by simp [layI,rising]
  | y :: r,n,h => by
    unfold rising at h ⊢
    rw [List.pairwise_cons] at h
    unfold layI
    split
    · rw [List.pairwise_cons]
      refine ⟨fun x hx => ?_,layI_rising h.2⟩
      rcases layI_mem.1 hx with rfl | hx
      · assumption
      · exact h.1 x hx
    · split
      · rw [List.pairwise_cons]; exact h
      · rw [List.pairwise_cons,List.pairwise_cons]
        refine ⟨fun x hx => ?_,h⟩
        rcases List.mem_cons.1 hx with rfl | hx
        · omega
        · have := h.1 x hx; omega
theorem layI_len (l : List Int) (n : Int) : (layI l n).length ≤ l.length + 1 := by
  induction l with
  | nil => simp [layI]
  | cons y r ih =>
    unfold layI
    split
    · simp; omega
    · split <;> simp
def posI (l : List Int) (n : Int) : Nat := (l.takeWhile fun x => decide (x < n)).length
theorem posI_le : ∀ (l : List Int) (n : Int),posI l n ≤ l.length
  | [],_ => by simp [posI]
  | x :: r,n => by
    have := posI_le r n
    unfold posI at this ⊢
    rw [List.takeWhile_cons]
    split <;> simp; omega
theorem posI_lt : ∀ (l : List Int) (n : Int) (i : Nat) (x : Int),i < posI l n → l[i]? = some x → x < n
  | [],_,_,_,_,h => by simp at h
  | y :: r,n,i,x,hi,hx => by
    unfold posI at hi
    rw [List.takeWhile_cons] at hi
    split at hi
    · rename_i hy
      cases i with
      | zero => simp at hx; subst hx; simpa using hy
      | succ i => exact posI_lt r n i x (by unfold posI; simpa using hi) (by simpa using hx)
    · simp at hi
theorem posI_ge : ∀ (l : List Int) (n : Int) (x : Int),l[posI l n]? = some x → ¬ x < n
  | [],_,_,h => by simp at h
  | y :: r,n,x,hx => by
    unfold posI at hx
    rw [List.takeWhile_cons] at hx
    split at hx
    · rw [List.length_cons,List.getElem?_cons_succ] at hx
      exact posI_ge r n x hx
    · rename_i hy
      simp at hx; subst hx; simpa using hy
theorem layI_eq : ∀ (l : List Int) (n : Int),layI l n = if l[posI l n]? = some n then l else l.take (posI l n) ++ [n] ++ l.drop (posI l n)
  | [],n => by simp [layI,posI]
  | y :: r,n => by
    have ih := layI_eq r n
    unfold layI
    by_cases hy : y < n
    · have hp : posI (y :: r) n = posI r n + 1 := by unfold posI; rw [List.takeWhile_cons]; simp [hy]
      rw [if_pos hy,hp,ih]
      simp only [List.getElem?_cons_succ,List.take_succ_cons,List.drop_succ_cons]
      split <;> rfl
    · have hp : posI (y :: r) n = 0 := by unfold posI; rw [List.takeWhile_cons]; simp [hy]
      rw [if_neg hy,hp]
      simp
def fstOf (l : List Sub) (i : Nat) (s : Sub) : Bool := (l.take i).foldl (fun b t => b && !fsame s.filter t.filter) true
def cliStep (s : Sub) (acc : List Int) (t : Sub) : List Int := if fsame s.filter t.filter then layI acc t.client else acc
def cliOf (l : List Sub) (s : Sub) : List Int := l.foldl (cliStep s) []
def gofG (l : List Sub) : Nat → List Sub → List Grp → List Grp
  | _,[],out => out
  | i,s :: r,out => gofG l (i + 1) r (if fstOf l i s then out ++ [⟨s.filter,cliOf l s⟩] else out)
def gof (l : List Sub) : List Grp := gofG l 0 l []
def matchG (A : List Attr) : Nat → List Grp → List Int → List Int
  | _,[],out => out
  | i,x :: r,out => matchG A (i + 1) r (if ftakes x.filter A then out ++ [(i : Int)] else out)
def gmatch (g : List Grp) (A : List Attr) : List Int := matchG A 0 g []
def rdStep (g : List Grp) (out : List Int) (i : Int) : List Int := if i < 0 ∨ (g.length : Int) ≤ i then out else ((g[i.toNat]?).getD default).clients.foldl layI out
def greaders (g : List Grp) (m : List Int) : List Int := m.foldl (rdStep g) []
def hasI : List Int → Int → Bool
  | [],_ => false
  | x :: r,n => if x = n then true else hasI r n
theorem hasI_iff : ∀ {l : List Int} {n : Int},hasI l n = true ↔ n ∈ l
  | [],n => by simp [hasI]
  | x :: r,n => by
    unfold hasI
    split
    · rename_i h; subst h; simp
    · rename_i h
      rw [hasI_iff,List.mem_cons]
      constructor
      · exact .inr
      · rintro (h' | h')
        · exact absurd h'.symm h
        · exact h'
def mineG (c : Int) : Nat → List Grp → List Int → List Int
  | _,[],out => out
  | i,x :: r,out => mineG c (i + 1) r (if hasI x.clients c then out ++ [(i : Int)] else out)
def gmine (g : List Grp) (c : Int) : List Int := mineG c 0 g []
def subsI (l : List Int) (a : Nat) (fs : List (List Pred)) (c home : Int) : Nat → Int → Nat → Nat → List Sub → List Sub × Nat × Nat
  | 0,_,j,d,out => (out,j,d)
  | n + 1,num,j,d,out =>
    subsI l a fs c home n (num + 1 + fd l a j 2) ((filterV l a (j + 1)).2.1 + 1) (d + (filterV l a (j + 1)).2.2)
      (out ++ [⟨c,home,num + 1 + fd l a j 2,if fd l a (filterV l a (j + 1)).2.1 6 < 3 then fs.getD (fd l a (filterV l a (j + 1)).2.1 6).toNat [] else (filterV l a (j + 1)).1⟩])
def subsO (l : List Int) (a P : Nat) (fs : List (List Pred)) : Nat → Int → Nat → Nat → List Sub → List Sub × Nat × Nat
  | 0,_,j,d,out => (out,j,d)
  | r + 1,c,j,d,out =>
    subsO l a P fs r (c + 1) (subsI l a fs c (fd l a j (P + 1)) (fd l a (j + 1) 4).toNat 0 (j + 2) d out).2.1 (subsI l a fs c (fd l a j (P + 1)) (fd l a (j + 1) 4).toNat 0 (j + 2) d out).2.2 (subsI l a fs c (fd l a j (P + 1)) (fd l a (j + 1) 4).toNat 0 (j + 2) d out).1
def subsF (l : List Int) (a j : Nat) : List (List Pred) := [(filterV l a j).1,(filterV l a (filterV l a j).2.1).1,[]]
def subsV (l : List Int) (a j P : Nat) : List Sub × Nat × Nat :=
  subsO l a P (subsF l a j) 6 1 (filterV l a (filterV l a j).2.1).2.1 ((filterV l a j).2.2 + (filterV l a (filterV l a j).2.1).2.2) []
theorem subsI_asks (l : List Int) (a : Nat) (fs : List (List Pred)) (c home : Int) : ∀ (n : Nat) (num : Int) (j d : Nat) (out : List Sub),(subsI l a fs c home n num j d out).2.1 ≤ j + 36 * n ∧ (subsI l a fs c home n num j d out).1.length = out.length + n
  | 0,_,_,_,_ => by simp [subsI]
  | n + 1,num,j,d,out => by
    simp only [subsI]
    have h1 := subsI_asks l a fs c home n (num + 1 + fd l a j 2) ((filterV l a (j + 1)).2.1 + 1) (d + (filterV l a (j + 1)).2.2) (out ++ [⟨c,home,num + 1 + fd l a j 2,if fd l a (filterV l a (j + 1)).2.1 6 < 3 then fs.getD (fd l a (filterV l a (j + 1)).2.1 6).toNat [] else (filterV l a (j + 1)).1⟩])
    have h2 := filterV_asks l a (j + 1)
    refine ⟨by omega,?_⟩
    rw [h1.2]; simp; omega
theorem subsO_asks (l : List Int) (a P : Nat) (fs : List (List Pred)) : ∀ (r : Nat) (c : Int) (j d : Nat) (out : List Sub),(subsO l a P fs r c j d out).2.1 ≤ j + 110 * r ∧ (subsO l a P fs r c j d out).1.length ≤ out.length + 3 * r
  | 0,_,_,_,_ => by simp [subsO]
  | r + 1,c,j,d,out => by
    simp only [subsO]
    have h0 := fd_bound l a (j + 1) (n := 4) (by omega)
    have h1 := subsI_asks l a fs c (fd l a j (P + 1)) (fd l a (j + 1) 4).toNat 0 (j + 2) d out
    have h2 := subsO_asks l a P fs r (c + 1) (subsI l a fs c (fd l a j (P + 1)) (fd l a (j + 1) 4).toNat 0 (j + 2) d out).2.1 (subsI l a fs c (fd l a j (P + 1)) (fd l a (j + 1) 4).toNat 0 (j + 2) d out).2.2 (subsI l a fs c (fd l a j (P + 1)) (fd l a (j + 1) 4).toNat 0 (j + 2) d out).1
    have h3 : (fd l a (j + 1) 4).toNat ≤ 3 := by omega
    omega
theorem subsV_asks (l : List Int) (a j P : Nat) : (subsV l a j P).2.1 ≤ j + 800 ∧ (subsV l a j P).1.length ≤ 18 := by
  unfold subsV
  have h1 := filterV_asks l a j
  have h2 := filterV_asks l a (filterV l a j).2.1
  have h3 := subsO_asks l a P (subsF l a j) 6 1 (filterV l a (filterV l a j).2.1).2.1 ((filterV l a j).2.2 + (filterV l a (filterV l a j).2.1).2.2) []
  simp at h3
  omega
theorem subsI_all {Q : Sub → Prop} (l : List Int) (a : Nat) (fs : List (List Pred)) (c home : Int) (hq : ∀ num f,(f ∈ fs ∨ f = [] ∨ ∃ j,f = (filterV l a j).1) → Q ⟨c,home,num,f⟩) : ∀ (n : Nat) (num : Int) (j d : Nat) (out : List Sub),(∀ s ∈ out,Q s) → ∀ s ∈ (subsI l a fs c home n num j d out).1,Q s
  | 0,_,_,_,_,h => h
  | n + 1,num,j,d,out,h => by
    simp only [subsI]
    refine subsI_all l a fs c home hq n _ _ _ _ fun s hs => ?_
    rcases List.mem_append.1 hs with hs | hs
    · exact h s hs
    · simp at hs; subst hs
      refine hq _ _ ?_
      split
      · cases hg : fs[(fd l a (filterV l a (j + 1)).2.1 6).toNat]? with
        | none => exact .inr (.inl rfl)
        | some f => exact .inl (List.mem_of_getElem? hg)
      · exact .inr (.inr ⟨_,rfl⟩)
theorem subsO_all {Q : Sub → Prop} (l : List Int) (a P : Nat) (fs : List (List Pred)) (hq : ∀ (c home num : Int) f,1 ≤ c → c ≤ 6 → (f ∈ fs ∨ f = [] ∨ ∃ j,f = (filterV l a j).1) → Q ⟨c,home,num,f⟩) : ∀ (r : Nat) (c : Int) (j d : Nat) (out : List Sub),1 ≤ c → c + r ≤ 7 → (∀ s ∈ out,Q s) → ∀ s ∈ (subsO l a P fs r c j d out).1,Q s
  | 0,_,_,_,_,_,_,h => h
  | r + 1,c,j,d,out,h1,h2,h => by
    simp only [subsO]
    refine subsO_all l a P fs hq r _ _ _ _ (by omega) (by omega) ?_
    exact subsI_all l a fs c _ (fun num f hf => hq c _ num f h1 (by omega) hf) _ _ _ _ _ h
theorem subsV_all (l : List Int) (a j P : Nat) : ∀ s ∈ (subsV l a j P).1,1 ≤ s.client ∧ s.client ≤ 6 ∧ FFV s.filter ∧ s.filter.length ≤ 3 := by
  unfold subsV
  refine subsO_all (Q := fun s => 1 ≤ s.client ∧ s.client ≤ 6 ∧ FFV s.filter ∧ s.filter.length ≤ 3) l a P _ (fun c home num f h1 h2 hf => ?_) 6 1 _ _ [] (by omega) (by omega) (by simp)
  refine ⟨h1,h2,?_⟩
  show FFV f ∧ f.length ≤ 3
  rcases hf with hf | rfl | ⟨j,rfl⟩
  · unfold subsF at hf
    simp at hf
    rcases hf with rfl | rfl | rfl
    · exact filterV_ffv l a j
    · exact filterV_ffv l a _
    · exact ⟨ffv_nil,by simp⟩
  · exact ⟨ffv_nil,by simp⟩
  · exact filterV_ffv l a j
end Go.Ab
namespace Go.Proofs.Ytdoobejjedpcgaa
open Go Go.Ab
set_option maxRecDepth 20000
noncomputable section
variable (fr : Fr) (st : St) (k : Kt)
def fi48 : FI := { body := codeOf Try.f48,ntmps := 25,results := [.tmp 2],pers := [0,2,3,4,5],locals := [5],pure := true,marks := [] }
theorem fi51_eq : gS.fn 48 = some fi48 := by kernel_rfl
theorem st48 (a0 : V) : startFr fi48 [a0] = { ps := [(0,.val a0),(2,.any),(3,.any),(4,.any),(5,.any)],ts := [],lc := [] } := rfl
def b48 : Code := mini (codeOf Try.f48)
def c48_12 : Code := .cond (.tmp 9) .skip (.exit 0)
def c48_10 : Code := .seq (codeN b48 267) c48_12
def c48_21 : Code := codeN b48 3659
def c48_19 : Code := .seq (codeN b48 2635) c48_21
def c48_17 : Code := .seq (codeN b48 1099) c48_19
def c48_22 : Code := codeN b48 459
def c48_15 : Code := .seq (.block 1 c48_17) c48_22
def c48_9 : Code := .seq c48_10 c48_15
def c48_8 : Code := .loop c48_9
def c48_7 : Code := .block 0 c48_8
def c48_5 : Code := .seq (codeN b48 19) c48_7
def c48_23 : Code := .seq (codeN b48 23) .ret
def c48_4 : Code := .seq c48_5 c48_23
def c48_2 : Code := .seq (codeN b48 5) c48_4
def c48_0 : Code := .seq (codeN b48 2) c48_2
theorem E48 : evK gS fi48 c48_12 fr st k = condK gS fi48 (fr.op (.tmp 9)).bool? .skip (.exit 0) fr st k ∧
 (evK gS fi48 c48_10 fr st k = opsR gS fi48 [mv 6 4 3,
 mv 7 0 29,
 len1 8 7 29 3,
 bop 9 .lss 3 6 8 3 4] fr st (.seq c48_12 k)) ∧
 (evK gS fi48 c48_21 fr st k = opsR gS fi48 [mv 20 3 29,
 ld 21 91 5 91,
 op1 22 (.buildSlice 29 1 #[(0,(.tmp 21))]) 29,
 op1 23 (.call { callee := (.builtin .append),args := #[(.tmp 20),(.tmp 22)],argTypes := #[29,29] }) 29,
 asn 3 23 29] fr st k) ∧
 (evK gS fi48 c48_19 fr st k = opsR gS fi48 [op1 16 (.fieldAddr 91 (.tmp 5) 4) 0,
 ld 17 89 16 89,
 op1 18 (.call { callee := (.builtin .append),args := #[(.const (.slice none 0 0)),(.tmp 17)],argTypes := #[89,89] }) 89,
 op1 19 (.fieldAddr 91 (.tmp 5) 4) 0,
 sto 89 19 18] fr st (.seq c48_21 k)) ∧
 (evK gS fi48 c48_17 fr st k = opsR gS fi48 [mv 12 0 29,
 mv 13 4 3,
 ixa 14 29 12 13 0,
 ld 15 91 14 91,
 op1 5 (.alloc 91) 0,
 sto 91 5 15] fr st (.seq c48_19 k)) ∧
 (evK gS fi48 c48_22 fr st k = opsR gS fi48 [mv 10 4 3,
 op1 11 (.binOp .add 3 (.tmp 10) (.const (.int .i64 1)) 3) 3,
 asn 4 11 3] fr st k) ∧
 evK gS fi48 c48_15 fr st k = evK gS fi48 c48_17 fr st (.blk 1 (.seq c48_22 k)) ∧
 evK gS fi48 c48_9 fr st k = evK gS fi48 c48_10 fr st (.seq c48_15 k) ∧
 evK gS fi48 c48_7 fr st k = evK gS fi48 c48_8 fr st (.blk 0 k) ∧
 evK gS fi48 c48_5 fr st k = opsR gS fi48 [op1 4 (.assign (.const (.int .i64 0))) 3] fr st (.seq c48_7 k) ∧
 (evK gS fi48 c48_23 fr st k = opsR gS fi48 [mv 24 3 29,
 asn 2 24 29] fr st (.seq .ret k)) ∧
 evK gS fi48 c48_4 fr st k = evK gS fi48 c48_5 fr st (.seq c48_23 k) ∧
 evK gS fi48 c48_2 fr st k = opsR gS fi48 [op1 3 (.assign (.const (.slice none 0 0))) 29] fr st (.seq c48_4 k) ∧
 evK gS fi48 c48_0 fr st k = opsR gS fi48 [op1 2 (.assign (.const (.slice none 0 0))) 29] fr st (.seq c48_2 k) := ⟨rfl,evK_rs 3 rfl (by kernel_rfl),evK_r 7 (by kernel_rfl),evK_rs 6 rfl (by kernel_rfl),evK_rs 5 rfl (by kernel_rfl),evK_r 4 (by kernel_rfl),rfl,rfl,rfl,evK_rs 2 rfl (by kernel_rfl),evK_rs 8 rfl (by kernel_rfl),rfl,evK_rs 1 rfl (by kernel_rfl),evK_rs 0 rfl (by kernel_rfl)⟩
theorem m48 : mini fi48.body = c48_0 := by kernel_rfl
theorem n48_8 (fr : Fr) (st : St) (k : Kt) : nextK gS fi48 (.loop c48_9 k) .normal fr st = evK gS fi48 c48_8 fr st k := rfl
theorem preds_snoc (l : List Pred) (x : Pred) : encPreds l ++ [.agg [.str x.name,.int .i64 x.test,.int .i64 x.v.kind,.int .i64 x.v.n,.float .f64 x.v.x,.str x.v.s,.bool x.v.b,.int .i64 x.w.kind,.int .i64 x.w.n,.float .f64 x.w.x,.str x.w.s,.bool x.w.b,.slice (encVals x.set)]] = encPreds (l ++ [x]) := by simp [encPreds]
def kof {α : Type} (k : Nat) (l : List α) : Nat := if l = [] then 0 else k
set_option maxHeartbeats 8000000 in
theorem L48 (f : List Pred) (h_f : PSm f) (st : St) : ∀ (n i : Nat) (e5 : E) (T : List (Nat × E)) (X : List (Nat × List V)) (ht5 : e5.Tame),i ≤ f.length → f.length - i = n →
    evK gS fi48 c48_8 { ps := [(0,.val (.slice (encPreds f))),(2,.own 0 []),(3,.own (kof 13 (f.take i)) (encPreds (f.take i))),(4,.val (.int .i64 i)),(5,e5)],ts := T,lc := X } st (.blk 0 (.seq c48_23 .nil)) = some (.ret (.slice (encPreds f)) (some (kof 13 f)),st) := by
  intro n
  have hm : fi48.marks = [] := rfl
  have hl : fi48.locals = [5] := rfl
  have hr : fi48.results = [.tmp 2] := rfl
  have hfl := h_f.1
  induction n with
  | zero =>
    intro i e5 T X ht5 hi hn
    obtain rfl : i = f.length := by omega
    refine evK_loop c48_9 _ _ _ _ rfl ?_
    rw [List.take_length]
    by_cases hfe : f = []
    · subst hfe
      simp [ht5,kof,encPreds,-Int.not_le,-Int.not_lt,-Nat.not_le,-Nat.not_lt,ty3,ty4,ty29,ty89,ty91,hm,hl,hr,E48,n48_8]
    · have hk : kof 13 f = 13 := by unfold kof; rw [if_neg hfe]
      rw [hk]
      simp [ht5,-Int.not_le,-Int.not_lt,-Nat.not_le,-Nat.not_lt,ty3,ty4,ty29,ty89,ty91,hm,hl,hr,E48,n48_8]
  | succ n ih =>
    intro i e5 T X ht5 hi hn
    obtain ⟨x,hx⟩ : ∃ x,f[i]? = some x := ⟨f[i]'(by omega),List.getElem?_eq_getElem (by omega)⟩
    have hlt : (i : Int) < (f.length : Int) := by omega
    have hlt2 : i < f.length := by omega
    have hxe : f[i]'hlt2 = x := by rw [List.getElem?_eq_getElem hlt2] at hx; exact Option.some.inj hx
    have hw : IntKind.wrap .i64 ((i : Int) + 1) = ((i + 1 : Nat) : Int) := by rw [wrap64 (by omega) (by omega)]; omega
    have hxs := (h_f.2 x (List.mem_of_getElem? hx)).2
    have hxs2 : x.set.length ≤ 140737488355328 := by omega
    have htk : f.take (i + 1) = f.take i ++ [x] := by rw [List.take_succ_eq_append_getElem hlt2,hxe]
    have IH := fun e5 T X ht5 => ih (i + 1) e5 T X ht5 (by omega) (by omega)
    have hk1 : kof 13 (f.take (i + 1)) = 13 := by rw [htk]; simp [kof]
    rw [hk1,htk] at IH
    have hsv := sizes_vals x.set
    have hsp := sizes_preds (f.take i)
    have hsn := preds_snoc (f.take i) x
    have hln : (f.take i).length = i := by simp; omega
    have b1 : (i + 1) * 144 ≤ 140737488355328 := by omega
    have b2 : i + 1 ≤ 140737488355328 := by omega
    have hk0 : kof 13 (f.take i) = 0 ∧ f.take i = [] ∨ kof 13 (f.take i) = 13 := by
      unfold kof; split
      · exact .inl ⟨rfl,by assumption⟩
      · exact .inr rfl
    refine evK_loop c48_9 _ _ _ _ rfl ?_
    generalize hF : f.take i = F at *
    rcases hk0 with ⟨h1,h2⟩ | h1
    · rw [h1,h2]
      rw [h2] at IH
      have hi0 : i = 0 := by rw [← hln,h2]; rfl
      have hsn0 : encPreds [x] = [.agg [.str x.name,.int .i64 x.test,.int .i64 x.v.kind,.int .i64 x.v.n,.float .f64 x.v.x,.str x.v.s,.bool x.v.b,.int .i64 x.w.kind,.int .i64 x.w.n,.float .f64 x.w.x,.str x.w.s,.bool x.w.b,.slice (encVals x.set)]] := rfl
      rw [List.nil_append,hsn0] at IH
      have en : encPreds [] = [] := rfl
      simp [-Int.natCast_add,en,ht5,hx,hxe,hlt,hlt2,hw,hxs,hxs2,hsv,-Int.not_le,-Int.not_lt,-Nat.not_le,-Nat.not_lt,ty3,ty4,ty29,ty89,ty91,hm,hl,hr,E48,n48_8]
      exact IH _ _ _ rfl
    · rw [h1]
      simp [-Int.natCast_add,ht5,hx,hxe,hlt,hlt2,hw,hxs,hxs2,hsv,hsp,hsn,hln,b1,b2,IH,-Int.not_le,-Int.not_lt,-Nat.not_le,-Nat.not_lt,ty3,ty4,ty29,ty89,ty91,hm,hl,hr,E48,n48_8]
set_option maxHeartbeats 8000000 in
theorem c48 (f : List Pred) (h_f : PSm f) (st : St) : EvF gS 48 [.slice (encPreds f)] st = some (.ret (.slice (encPreds f)) (some (kof 13 f)),st) := by
  refine EvF_start fi51_eq (fun x h => by cases h) m48 ?_
  rw [st48]
  have hm : fi48.marks = [] := rfl
  have hl : fi48.locals = [5] := rfl
  have hr : fi48.results = [.tmp 2] := rfl
  have L0 := fun e5 T X ht5 => L48 f h_f st f.length 0 e5 T X ht5 (Nat.zero_le _) rfl
  simp only [show ((0 : Nat) : Int) = 0 from rfl,List.take_zero,show kof 13 ([] : List Pred) = 0 from rfl,show encPreds [] = [] from rfl] at L0
  simp [L0,-Int.not_le,-Int.not_lt,-Nat.not_le,-Nat.not_lt,ty3,ty4,ty29,ty89,ty91,hm,hl,hr,E48,n48_8]
theorem k48 (f : List Pred) (h_f : PSm f) (fr : Fr) (st : St) : callStep gS (EvF gS) 48 [.slice (encPreds f)] fr st = some (.ok (.own (kof 13 f) (encPreds f)) fr st) :=
  call_pure rfl fi51_eq rfl (fun st => c48 f h_f st) (by simp [V.flat])
theorem psm_right {f : List Pred} (h : ∀ p ∈ f,pright p = true) (hl : f.length ≤ 1000000) : PSm f := by
  refine ⟨hl,fun p hp => ?_⟩
  have hr := h p hp
  refine ⟨(ok_of_right hr).1,?_⟩
  unfold pright at hr
  split at hr
  · repeat' split at hr
    all_goals first
      | (simp only [Bool.and_eq_true,decide_eq_true_eq] at hr; omega)
      | cases hr
  · cases hr
theorem psm_ffv {f : List Pred} (h : FFV f ∧ f.length ≤ 3) : PSm f := psm_right h.1.right (by omega)
theorem kof_snoc {α : Type} (k : Nat) (l : List α) (x : α) : kof k (l ++ [x]) = k := by unfold kof; rw [if_neg (by simp)]
theorem kof_or {α : Type} (k : Nat) (l : List α) : kof k l = 0 ∧ l = [] ∨ kof k l = k := by
  unfold kof; split
  · exact .inl ⟨rfl,by assumption⟩
  · exact .inr rfl
theorem frz_slice {xs : List V} (h : flats xs = true) (st : St) : frz 6 st (.slice xs) = some (.slice xs,st) := frz_flat 6 st _ (by simpa [V.flat] using h)
def fi51 : FI := { body := codeOf Try.f51,ntmps := 46,results := [.tmp 4],pers := [0,1,4,5,6],locals := [],pure := true,marks := [1000000] }
theorem fi95_eq : gS.fn 51 = some fi51 := by kernel_rfl
theorem st51 (a0 a1 : V) : startFr fi51 [a0,a1] = { ps := [(0,.val a0),(1,.val a1),(4,.any),(5,.any),(6,.any)],ts := [],lc := [] } := rfl
def b51 : Code := mini (codeOf Try.f51)
def c51_10 : Code := .cond (.tmp 18) .skip (.exit 0)
def c51_8 : Code := .seq (codeN b51 131) c51_10
def c51_14 : Code := codeN b51 163
def c51_13 : Code := .block 1 c51_14
def c51_7 : Code := .seq c51_8 c51_13
def c51_6 : Code := .loop c51_7
def c51_19 : Code := .seq (codeN b51 151) .ret
def c51_18 : Code := .cond (.tmp 32) c51_19 .skip
def c51_16 : Code := .seq (codeN b51 39) c51_18
def r51_26 : Array Oper := regOps (codeN (codeOf Try.f51) 95)
def c51_26 : Code := .region 7 r51_26 true
def q51_26 : List (Oper × Fl) := [(mv 38 6 22,⟨true,false,true,false,false,false,true,true,false,false,[]⟩),
 (mv 39 1 3,⟨true,false,true,false,false,false,true,true,false,false,[]⟩),
 (op1 40 (.buildSlice 22 1 #[(0,(.tmp 39))]) 22,⟨true,false,true,false,false,false,true,true,false,false,[]⟩),
 (op1 41 (.call { callee := (.builtin .append),args := #[(.tmp 38),(.tmp 40)],argTypes := #[22,22] }) 22,⟨false,true,true,false,false,true,true,true,false,false,[]⟩),
 (mv 42 0 22,⟨true,false,false,false,false,false,true,false,false,false,[]⟩),
 (mv 43 5 3,⟨true,false,false,false,true,false,true,false,false,false,[]⟩),
 (op1 44 (.slice 22 (.tmp 42) (some (.tmp 43)) none none) 22,⟨true,false,false,false,true,false,true,false,false,false,[]⟩),
 (op1 45 (.call { callee := (.builtin .append),args := #[(.tmp 41),(.tmp 44)],argTypes := #[22,22] }) 22,⟨false,true,true,false,true,true,true,true,false,false,[]⟩),
 (asn 4 45 22,⟨true,true,true,false,true,false,true,true,false,false,[]⟩)]
def c51_25 : Code := .seq c51_26 .ret
def c51_23 : Code := .seq (codeN b51 47) c51_25
def c51_15 : Code := .seq c51_16 c51_23
theorem e51_15 : evK gS fi51 c51_15 fr st k = evK gS fi51 c51_16 fr st (.seq c51_23 k) := rfl
def c51_4 : Code := .seq (.block 0 c51_6) c51_15
def c51_2 : Code := .seq (codeN b51 5) c51_4
def c51_0 : Code := .seq (codeN b51 2) c51_2
theorem E51 : evK gS fi51 c51_10 fr st k = condK gS fi51 (fr.op (.tmp 18)).bool? .skip (.exit 0) fr st k ∧
 (evK gS fi51 c51_8 fr st k = opsR gS fi51 [mv 7 5 3,
 mv 8 0 22,
 len1 9 8 22 3,
 bop 10 .lss 3 7 9 3 4,
 mv 11 10 4,
 mk (some 12) (.move (.tmp 0)) 22 (some (4,true)),
 mk (some 13) (.move (.tmp 5)) 3 (some (4,true)),
 mk (some 14) (.indexAddr 22 (.tmp 12) (.tmp 13)) 0 (some (4,true)),
 mk (some 15) (.load 3 (.tmp 14)) 3 (some (4,true)),
 mk (some 16) (.move (.tmp 1)) 3 (some (4,true)),
 mk (some 17) (.binOp .lss 3 (.tmp 15) (.tmp 16) 3) 4 (some (4,true)),
 op1 18 (.pick (.tmp 11) (.tmp 17) (.const (.bool false))) 4] fr st (.seq c51_10 k)) ∧
 (evK gS fi51 c51_14 fr st k = opsR gS fi51 [mv 19 5 3,
 op1 20 (.binOp .add 3 (.tmp 19) (.const (.int .i64 1)) 3) 3,
 asn 5 20 3] fr st k) ∧
 evK gS fi51 c51_13 fr st k = evK gS fi51 c51_14 fr st (.blk 1 k) ∧
 evK gS fi51 c51_7 fr st k = evK gS fi51 c51_8 fr st (.seq c51_13 k) ∧
 (evK gS fi51 c51_19 fr st k = opsR gS fi51 [mv 33 0 22,
 asn 4 33 22] fr st (.seq .ret k)) ∧
 evK gS fi51 c51_18 fr st k = condK gS fi51 (fr.op (.tmp 32)).bool? c51_19 .skip fr st k ∧
 (evK gS fi51 c51_16 fr st k = opsR gS fi51 [mv 21 5 3,
 mv 22 0 22,
 len1 23 22 22 3,
 bop 24 .lss 3 21 23 3 4,
 mv 25 24 4,
 mk (some 26) (.move (.tmp 0)) 22 (some (4,true)),
 mk (some 27) (.move (.tmp 5)) 3 (some (4,true)),
 mk (some 28) (.indexAddr 22 (.tmp 26) (.tmp 27)) 0 (some (4,true)),
 mk (some 29) (.load 3 (.tmp 28)) 3 (some (4,true)),
 mk (some 30) (.move (.tmp 1)) 3 (some (4,true)),
 mk (some 31) (.binOp .eql 3 (.tmp 29) (.tmp 30) 3) 4 (some (4,true)),
 op1 32 (.pick (.tmp 25) (.tmp 31) (.const (.bool false))) 4] fr st (.seq c51_18 k)) ∧
 evK gS fi51 c51_26 fr st k = drwR gS fi51 r51_26 q51_26 fr st k ∧
 evK gS fi51 c51_25 fr st k = evK gS fi51 c51_26 fr st (.seq .ret k) ∧
 (evK gS fi51 c51_23 fr st k = opsR gS fi51 [mv 34 0 22,
 mv 35 5 3,
 op1 36 (.slice 22 (.tmp 34) none (some (.tmp 35)) none) 22,
 op1 37 (.call { callee := (.builtin .append),args := #[(.const (.slice none 0 0)),(.tmp 36)],argTypes := #[22,22] }) 22,
 asn 6 37 22] fr st (.seq c51_25 k)) ∧
 evK gS fi51 c51_4 fr st k = evK gS fi51 c51_6 fr st (.blk 0 (.seq c51_15 k)) ∧
 evK gS fi51 c51_2 fr st k = opsR gS fi51 [op1 5 (.assign (.const (.int .i64 0))) 3] fr st (.seq c51_4 k) ∧
 evK gS fi51 c51_0 fr st k = opsR gS fi51 [op1 4 (.assign (.const (.slice none 0 0))) 22] fr st (.seq c51_2 k) := ⟨rfl,evK_rs 2 rfl (by kernel_rfl),evK_r 3 (by kernel_rfl),rfl,rfl,evK_rs 5 rfl (by kernel_rfl),rfl,evK_rs 4 rfl (by kernel_rfl),evK_dr 7 rfl (by kernel_rfl) (by kernel_rfl),rfl,evK_rs 6 rfl (by kernel_rfl),rfl,evK_rs 1 rfl (by kernel_rfl),evK_rs 0 rfl (by kernel_rfl)⟩
theorem m51 : mini fi51.body = c51_0 := by kernel_rfl
theorem n51_6 (fr : Fr) (st : St) (k : Kt) : nextK gS fi51 (.loop c51_7 k) .normal fr st = evK gS fi51 c51_6 fr st k := rfl
theorem bl1 : borOk r51_26 0 6 38 = true := by kernel_rfl
theorem bl2 : handOk r51_26 8 45 = true := by kernel_rfl
set_option maxHeartbeats 8000000 in
theorem L51 (l : List Int) (hl1 : l.length < 1000000) (n0 : Int) (st : St) (X : List (Nat × List V)) (R : Out × St)
    (H : ∀ T,evK gS fi51 c51_15 { ps := [(0,.val (.slice (intVs l))),(1,.val (.int .i64 n0)),(4,.own 0 []),(5,.val (.int .i64 (posI l n0 : Nat))),(6,.any)],ts := T,lc := X } st .nil = some R) :
    ∀ (m i : Nat) (T : List (Nat × E)),i ≤ posI l n0 → posI l n0 - i = m → evK gS fi51 c51_6 { ps := [(0,.val (.slice (intVs l))),(1,.val (.int .i64 n0)),(4,.own 0 []),(5,.val (.int .i64 (i : Nat))),(6,.any)],ts := T,lc := X } st (.blk 0 (.seq c51_15 .nil)) = some R := by
  intro m
  have hm : fi51.marks = [1000000] := rfl
  have hl : fi51.locals = [] := rfl
  have hr : fi51.results = [.tmp 4] := rfl
  have hpl := posI_le l n0
  induction m with
  | zero =>
    intro i T hi hm2
    obtain rfl : i = posI l n0 := by omega
    refine evK_loop c51_7 _ _ _ _ rfl ?_
    cases hx : l[posI l n0]? with
    | none =>
      have h1 : ¬ ((posI l n0 : Nat) : Int) < (l.length : Int) := by rw [List.getElem?_eq_none_iff] at hx; omega
      simp [-Int.natCast_add,h1,H,-Int.not_le,-Int.not_lt,-Nat.not_le,-Nat.not_lt,ty3,ty4,ty22,hm,hl,hr,E51,q51_26,n51_6]
    | some x =>
      obtain ⟨h2,h3⟩ := List.getElem?_eq_some_iff.1 hx
      have h1 : ((posI l n0 : Nat) : Int) < (l.length : Int) := by omega
      have h4 := posI_ge l n0 x hx
      simp [-Int.natCast_add,h1,h2,h3,h4,hx,H,-Int.not_le,-Int.not_lt,-Nat.not_le,-Nat.not_lt,ty3,ty4,ty22,hm,hl,hr,E51,q51_26,n51_6]
  | succ m ih =>
    intro i T hi hm2
    have h2 : i < l.length := by omega
    obtain ⟨x,hx⟩ : ∃ x,l[i]? = some x := ⟨l[i]'h2,List.getElem?_eq_getElem h2⟩
    have h3 : l[i]'h2 = x := (List.getElem?_eq_some_iff.1 hx).2
    have h1 : (i : Int) < (l.length : Int) := by omega
    have h4 := posI_lt l n0 i x (by omega) hx
    have hw : IntKind.wrap .i64 ((i : Int) + 1) = ((i + 1 : Nat) : Int) := by rw [wrap64 (by omega) (by omega)]; omega
    have IH := fun T => ih (i + 1) T (by omega) (by omega)
    refine evK_loop c51_7 _ _ _ _ rfl ?_
    simp [-Int.natCast_add,h1,h2,h3,h4,hx,hw,IH,-Int.not_le,-Int.not_lt,-Nat.not_le,-Nat.not_lt,ty3,ty4,ty22,hm,hl,hr,E51,q51_26,n51_6]
set_option maxHeartbeats 8000000 in
theorem c51 (l : List Int) (hl1 : l.length < 1000000) (n0 : Int) (st : St) : EvF gS 51 [.slice (intVs l),.int .i64 n0] st = some (.ret (.slice (intVs (layI l n0))) none,st) := by
  refine EvF_start fi95_eq (fun x h => by cases h) m51 ?_
  rw [st51]
  have hm : fi51.marks = [1000000] := rfl
  have hl : fi51.locals = [] := rfl
  have hr : fi51.results = [.tmp 4] := rfl
  have hpl := posI_le l n0
  have hz := fun xs st => frz_slice (xs := intVs xs) (flats_ints xs) st
  generalize hR : (Out.ret (V.slice (intVs (layI l n0))) none,st) = R
  have LL := fun X H T => L51 l hl1 n0 st X R H (posI l n0) 0 T (Nat.zero_le _) rfl
  rw [show ((0 : Nat) : Int) = 0 from rfl] at LL
  simp [-Int.natCast_add,-Int.not_le,-Int.not_lt,-Nat.not_le,-Nat.not_lt,ty3,ty4,ty22,hm,hl,hr,E51,q51_26,e51_15,n51_6,bl1,bl2]
  refine LL _ (fun T => ?_) _
  clear LL
  subst hR
  rw [layI_eq]
  generalize posI l n0 = p at *
  have hp0 : (0 : Int) ≤ (p : Int) := by omega
  have hp1 : (p : Int) ≤ (l.length : Int) := by omega
  have hsi := sizes_ints
  have e0 : (intVs l).take l.length = intVs l := List.take_of_length_le (by simp)
  have e1 := ints_take l p
  have e2 := ints_drop l p
  have e3 := ints_snoc (l.take p) n0
  have e4 := ints_append (l.take p ++ [n0]) (l.drop p)
  have e5 : (l.drop p).length = l.length - p := by simp
  have e6 : (l.take p).length = p := by simp; omega
  have b1 : p * 8 ≤ 140737488355328 := by omega
  have b2 : p ≤ 140737488355328 := by omega
  have b3 : (p + 1) * 8 ≤ 140737488355328 := by omega
  have b4 : p + 1 ≤ 140737488355328 := by omega
  have b5 : (p + 1 + (l.length - p)) * 8 ≤ 140737488355328 := by omega
  have b6 : p + 1 + (l.length - p) ≤ 140737488355328 := by omega
  cases hx : l[p]? with
  | none =>
    have h1 : ¬ (p : Int) < (l.length : Int) := by rw [List.getElem?_eq_none_iff] at hx; omega
    simp [-Int.natCast_add,-List.append_assoc,h1,hz,hp0,hp1,hsi,e0,e1,e2,e3,e4,e5,e6,b1,b2,b3,b4,b5,b6,-Int.not_le,-Int.not_lt,-Nat.not_le,-Nat.not_lt,ty3,ty4,ty22,hm,hl,hr,E51,q51_26,e51_15,n51_6,bl1,bl2]
  | some x =>
    obtain ⟨h2,h3⟩ := List.getElem?_eq_some_iff.1 hx
    have h1 : (p : Int) < (l.length : Int) := by omega
    by_cases h4 : x = n0
    · subst h4
      simp [-Int.natCast_add,h1,h2,h3,hx,hz,-Int.not_le,-Int.not_lt,-Nat.not_le,-Nat.not_lt,ty3,ty4,ty22,hm,hl,hr,E51,q51_26,e51_15,n51_6,bl1,bl2]
    · simp [-Int.natCast_add,-List.append_assoc,h1,h2,h3,h4,hx,hz,hp0,hp1,hsi,e0,e1,e2,e3,e4,e5,e6,b1,b2,b3,b4,b5,b6,-Int.not_le,-Int.not_lt,-Nat.not_le,-Nat.not_lt,ty3,ty4,ty22,hm,hl,hr,E51,q51_26,e51_15,n51_6,bl1,bl2]
theorem k51 (l : List Int) (hl1 : l.length < 1000000) (n0 : Int) (fr : Fr) (st : St) : callStep gS (EvF gS) 51 [.slice (intVs l),.int .i64 n0] fr st = some (.ok (.val (.slice (intVs (layI l n0)))) fr st) :=
  call_pure rfl fi95_eq rfl (fun st => c51 l hl1 n0 st) (by simp [V.flat])
def fi57 : FI := { body := codeOf Try.f57,ntmps := 17,results := [.tmp 4],pers := [0,1,4,6,7,8,9],locals := [],pure := true,marks := [] }
theorem fi98_eq : gS.fn 57 = some fi57 := by kernel_rfl
theorem st57 (a0 a1 : V) : startFr fi57 [a0,a1] = { ps := [(0,.val a0),(1,.val a1),(4,.any),(6,.any),(7,.any),(8,.any),(9,.any)],ts := [],lc := [] } := rfl
def b57 : Code := mini (codeOf Try.f57)
def c57_20 : Code := .seq (codeN b57 9829) .ret
def c57_19 : Code := .cond (.tmp 15) c57_20 .skip
def c57_17 : Code := .seq (codeN b57 2661) c57_19
def c57_15 : Code := .seq (codeN b57 1125) c57_17
def c57_24 : Code := codeN b57 485
def c57_13 : Code := .seq (.block 1 c57_15) c57_24
def c57_9 : Code := .seq (.cond (.tmp 10) .skip (.exit 0)) c57_13
def c57_7 : Code := .seq (codeN b57 69) c57_9
def c57_6 : Code := .loop c57_7
def c57_5 : Code := .block 0 c57_6
def c57_3 : Code := .seq (codeN b57 9) c57_5
def c57_25 : Code := .seq (codeN b57 11) .ret
def c57_2 : Code := .seq c57_3 c57_25
def c57_0 : Code := .seq (codeN b57 2) c57_2
theorem E57 : evK gS fi57 c57_20 fr st k = opsR gS fi57 [op1 4 (.assign (.const (.bool true))) 4] fr st (.seq .ret k) ∧
 evK gS fi57 c57_19 fr st k = condK gS fi57 (fr.op (.tmp 15)).bool? c57_20 .skip fr st k ∧
 (evK gS fi57 c57_17 fr st k = opsR gS fi57 [mv 13 6 3,
 mv 14 1 3,
 bop 15 .eql 3 13 14 3 4] fr st (.seq c57_19 k)) ∧
 (evK gS fi57 c57_15 fr st k = opsR gS fi57 [ixa 11 22 7 9 0,
 ld 12 3 11 3,
 asn 6 12 3] fr st (.seq c57_17 k)) ∧
 (evK gS fi57 c57_24 fr st k = opsR gS fi57 [op1 16 (.binOp .add 3 (.tmp 9) (.const (.int .i64 1)) 3) 3,
 mv 9 16 3] fr st k) ∧
 evK gS fi57 c57_13 fr st k = evK gS fi57 c57_15 fr st (.blk 1 (.seq c57_24 k)) ∧
 evK gS fi57 c57_9 fr st k = condK gS fi57 (fr.op (.tmp 10)).bool? .skip (.exit 0) fr st (.seq c57_13 k) ∧
 evK gS fi57 c57_7 fr st k = opsR gS fi57 [bop 10 .lss 3 9 8 3 0] fr st (.seq c57_9 k) ∧
 evK gS fi57 c57_5 fr st k = evK gS fi57 c57_6 fr st (.blk 0 k) ∧
 (evK gS fi57 c57_3 fr st k = opsR gS fi57 [mv 7 0 22,
 len1 8 7 22 3,
 op1 9 (.move (.const (.int .i64 0))) 3] fr st (.seq c57_5 k)) ∧
 evK gS fi57 c57_25 fr st k = opsR gS fi57 [op1 4 (.assign (.const (.bool false))) 4] fr st (.seq .ret k) ∧
 evK gS fi57 c57_2 fr st k = evK gS fi57 c57_3 fr st (.seq c57_25 k) ∧
 evK gS fi57 c57_0 fr st k = opsR gS fi57 [op1 4 (.assign (.const (.bool false))) 4] fr st (.seq c57_2 k) := ⟨evK_rs 5 rfl (by kernel_rfl),rfl,evK_rs 4 rfl (by kernel_rfl),evK_rs 3 rfl (by kernel_rfl),evK_r 6 (by kernel_rfl),rfl,rfl,evK_rs 2 rfl (by kernel_rfl),rfl,evK_rs 1 rfl (by kernel_rfl),evK_rs 7 rfl (by kernel_rfl),rfl,evK_rs 0 rfl (by kernel_rfl)⟩
theorem m57 : mini fi57.body = c57_0 := by kernel_rfl
theorem n57_6 (fr : Fr) (st : St) (k : Kt) : nextK gS fi57 (.loop c57_7 k) .normal fr st = evK gS fi57 c57_6 fr st k := rfl
set_option maxHeartbeats 4000000 in
theorem L57_6 (l : List Int) (n0 : Int) (h_l : l.length < 4611686018427387904) (st : St) : ∀ (n i : Nat) (j : Int)  (e0 e6 : E) (T : List (Nat × E)) (X : List (Nat × List V)) (ht0 : e0.Tame) (ht6 : e6.Tame) ,j = (i : Int) → i ≤ (l).length → (l).length - i = n →
    evK gS fi57 c57_6 { ps := [(0,e0),(1,.val (.int .i64 n0)),(4,.val (.bool false)),(6,e6),(7,.val (.slice (intVs l))),(8,.val (.int .i64 l.length)),(9,.val (.int .i64 j))],ts := T,lc := X } st (.blk 0 (.seq c57_25 .nil)) = some ((.ret (.bool (hasI (l.drop i) n0)) none),st) := by
  intro n
  have hm : fi57.marks = [] := rfl
  have hl : fi57.locals = [] := rfl
  have hr : fi57.results = [.tmp 4] := rfl
  induction n with
  | zero =>
    intro i j  e0 e6 T X ht0 ht6  hj hi hn
    obtain rfl : i = (l).length := by omega
    subst hj
    refine evK_loop c57_7 _ st _ _ rfl ?_
    simp (config := { contextual := true,maxSteps := 10000000,maxDischargeDepth := 6 }) [-Int.not_le,-Int.not_lt,-Nat.not_le,-Nat.not_lt,ty3,ty4,ty22,hm,hl,hr,E57,n57_6,ht0,ht6]
    all_goals try simp (config := { contextual := true }) [-Int.not_le,-Int.not_lt,-Nat.not_le,-Nat.not_lt,hasI]
    all_goals first | done | grind | omega | (trace_state; fail)
  | succ n ih =>
    intro i j  e0 e6 T X ht0 ht6  hj hi hn
    subst hj
    obtain ⟨x,hx⟩ : ∃ x,(l)[i]? = some x := ⟨(l)[i]'(by omega),List.getElem?_eq_getElem (by omega)⟩
    have hd := drop_get hx
    have hlt : (i : Int) < ((l).length : Int) := by omega
    have hlt2 : i < (l).length := by omega
    have hxe : (l)[i]'hlt2 = x := by rw [List.getElem?_eq_getElem hlt2] at hx; exact Option.some.inj hx
    have hw : IntKind.wrap .i64 ((i : Int) + 1) = (i : Int) + 1 := wrap64 (by omega) (by omega)
    have IH := fun e0 e6 T X ht0 ht6 => ih (i + 1) ((i : Int) + 1) e0 e6 T X ht0 ht6 rfl (by omega) (by omega)
    refine evK_loop c57_7 _ st _ _ rfl ?_
    simp (config := { contextual := true,maxSteps := 10000000,maxDischargeDepth := 6 }) [-Int.not_le,-Int.not_lt,-Nat.not_le,-Nat.not_lt,ty3,ty4,ty22,hm,hl,hr,E57,n57_6,ht0,ht6,hx,hxe,hd,hlt,hlt2,hw,IH]
    all_goals try simp (config := { contextual := true }) [-Int.not_le,-Int.not_lt,-Nat.not_le,-Nat.not_lt,hasI]
    all_goals first | done | grind | omega | (trace_state; fail)
set_option maxHeartbeats 4000000 in
theorem c57 (l : List Int) (n0 : Int)  (h_l : l.length < 4611686018427387904) (st : St) : EvF gS 57 [.slice (intVs l),.int .i64 n0] st = some (.ret (.bool (hasI l n0)) none,st) := by
  refine EvF_start fi98_eq (fun x h => by cases h) m57 ?_
  rw [st57]
  have hm : fi57.marks = [] := rfl
  have hl : fi57.locals = [] := rfl
  have hr : fi57.results = [.tmp 4] := rfl
  simp (config := { contextual := true,maxSteps := 10000000,maxDischargeDepth := 6 }) [-Int.not_le,-Int.not_lt,-Nat.not_le,-Nat.not_lt,ty3,ty4,ty22,hm,hl,hr,E57,n57_6,(fun e0 e6 T X ht0 ht6 => L57_6 l n0 h_l st _ 0 0  e0 e6 T X ht0 ht6 rfl (Nat.zero_le _) rfl),h_l]
  all_goals try simp (config := { contextual := true }) [-Int.not_le,-Int.not_lt,-Nat.not_le,-Nat.not_lt,hasI]
  all_goals first | done | grind | omega | (trace_state; fail)
theorem k57 (l : List Int) (n0 : Int)  (h_l : l.length < 4611686018427387904) (fr : Fr) (st : St) : callStep gS (EvF gS) 57 [.slice (intVs l),.int .i64 n0] fr st = some (.ok (retE none (.bool (hasI l n0))) fr st) :=
  call_pure rfl fi98_eq rfl (fun st => c57 l n0 h_l st) (by simp)
def fi19 : FI := { body := codeOf Try.f19,ntmps := 25,results := [.tmp 4],pers := [0,1,4,5,6,7,8,9,10],locals := [7],pure := true,marks := [1000000] }
theorem fi59_eq : gS.fn 19 = some fi19 := by kernel_rfl
theorem st19 (a0 a1 : V) : startFr fi19 [a0,a1] = { ps := [(0,.val a0),(1,.val a1),(4,.any),(5,.any),(6,.any),(7,.any),(8,.any),(9,.any),(10,.any)],ts := [],lc := [] } := rfl
def b19 : Code := mini (codeOf Try.f19)
def c19_22 : Code := codeN b19 11467
def c19_21 : Code := .cond (.tmp 18) c19_22 .skip
def c19_19 : Code := .seq (codeN b19 5323) c19_21
def c19_17 : Code := .seq (codeN b19 2251) c19_19
def c19_24 : Code := codeN b19 971
def c19_15 : Code := .seq (.block 1 c19_17) c19_24
def c19_11 : Code := .seq (.cond (.tmp 11) .skip (.exit 0)) c19_15
def c19_9 : Code := .seq (codeN b19 139) c19_11
def c19_8 : Code := .loop c19_9
def c19_7 : Code := .block 0 c19_8
def c19_5 : Code := .seq (codeN b19 19) c19_7
def c19_25 : Code := .seq (codeN b19 23) .ret
def c19_4 : Code := .seq c19_5 c19_25
def c19_2 : Code := .seq (codeN b19 5) c19_4
def c19_0 : Code := .seq (codeN b19 2) c19_2
theorem E19 : (evK gS fi19 c19_22 fr st k = opsR gS fi19 [mv 19 5 22,
 mv 20 6 3,
 op1 21 (.buildSlice 22 1 #[(0,(.tmp 20))]) 22,
 op1 22 (.call { callee := (.builtin .append),args := #[(.tmp 19),(.tmp 21)],argTypes := #[22,22] }) 22,
 asn 5 22 22] fr st k) ∧
 evK gS fi19 c19_21 fr st k = condK gS fi19 (fr.op (.tmp 18)).bool? c19_22 .skip fr st k ∧
 (evK gS fi19 c19_19 fr st k = opsR gS fi19 [op1 15 (.fieldAddr 39 (.tmp 7) 0) 0,
 ld 16 29 15 29,
 mv 17 1 42,
 cal 18 44 [(.tmp 16),(.tmp 17)] [29,42] 4] fr st (.seq c19_21 k)) ∧
 (evK gS fi19 c19_17 fr st k = opsR gS fi19 [mv 12 10 3,
 ixa 13 32 8 10 0,
 ld 14 39 13 39,
 op1 7 (.alloc 39) 0,
 asn 6 12 3,
 sto 39 7 14] fr st (.seq c19_19 k)) ∧
 (evK gS fi19 c19_24 fr st k = opsR gS fi19 [op1 23 (.binOp .add 3 (.tmp 10) (.const (.int .i64 1)) 3) 3,
 mv 10 23 3] fr st k) ∧
 evK gS fi19 c19_15 fr st k = evK gS fi19 c19_17 fr st (.blk 1 (.seq c19_24 k)) ∧
 evK gS fi19 c19_11 fr st k = condK gS fi19 (fr.op (.tmp 11)).bool? .skip (.exit 0) fr st (.seq c19_15 k) ∧
 evK gS fi19 c19_9 fr st k = opsR gS fi19 [bop 11 .lss 3 10 9 3 0] fr st (.seq c19_11 k) ∧
 evK gS fi19 c19_7 fr st k = evK gS fi19 c19_8 fr st (.blk 0 k) ∧
 (evK gS fi19 c19_5 fr st k = opsR gS fi19 [mv 8 0 32,
 len1 9 8 32 3,
 op1 10 (.move (.const (.int .i64 0))) 3] fr st (.seq c19_7 k)) ∧
 (evK gS fi19 c19_25 fr st k = opsR gS fi19 [mv 24 5 22,
 asn 4 24 22] fr st (.seq .ret k)) ∧
 evK gS fi19 c19_4 fr st k = evK gS fi19 c19_5 fr st (.seq c19_25 k) ∧
 evK gS fi19 c19_2 fr st k = opsR gS fi19 [op1 5 (.assign (.const (.slice none 0 0))) 22] fr st (.seq c19_4 k) ∧
 evK gS fi19 c19_0 fr st k = opsR gS fi19 [op1 4 (.assign (.const (.slice none 0 0))) 22] fr st (.seq c19_2 k) := ⟨evK_r 6 (by kernel_rfl),rfl,evK_rs 5 rfl (by kernel_rfl),evK_rs 4 rfl (by kernel_rfl),evK_r 7 (by kernel_rfl),rfl,rfl,evK_rs 3 rfl (by kernel_rfl),rfl,evK_rs 2 rfl (by kernel_rfl),evK_rs 8 rfl (by kernel_rfl),rfl,evK_rs 1 rfl (by kernel_rfl),evK_rs 0 rfl (by kernel_rfl)⟩
theorem m19 : mini fi19.body = c19_0 := by kernel_rfl
theorem n19_8 (fr : Fr) (st : St) (k : Kt) : nextK gS fi19 (.loop c19_9 k) .normal fr st = evK gS fi19 c19_8 fr st k := rfl
set_option maxHeartbeats 8000000 in
theorem L19 (g : List Grp) (hg : ∀ x ∈ g,POk x.filter ∧ x.clients.length < 1000) (hgl : g.length < 1000000) (A : List Attr) (hA : A.length < 4611686018427387904) (st : St) : ∀ (m i : Nat) (out : List Int) (e0 e6 e7 : E) (T : List (Nat × E)) (X : List (Nat × List V)) (h0 : e0.Tame) (h6 : e6.Tame) (h7 : e7.Tame),i ≤ g.length → g.length - i = m → out.length ≤ i →
    evK gS fi19 c19_8 { ps := [(0,e0),(1,.val (.slice (encAttrs A))),(4,.own 0 []),(5,.own (kof 1 out) (intVs out)),(6,e6),(7,e7),(8,.val (.slice (encGrps g))),(9,.val (.int .i64 g.length)),(10,.val (.int .i64 (i : Nat)))],ts := T,lc := X } st (.blk 0 (.seq c19_25 .nil)) = some (.ret (.slice (intVs (matchG A i (g.drop i) out))) none,st) := by
  intro m
  have hm : fi19.marks = [1000000] := rfl
  have hl : fi19.locals = [7] := rfl
  have hr : fi19.results = [.tmp 4] := rfl
  have hz := fun xs st => frz_slice (xs := intVs xs) (flats_ints xs) st
  induction m with
  | zero =>
    intro i out e0 e6 e7 T X h0 h6 h7 hi hm2 ho
    obtain rfl : i = g.length := by omega
    rw [List.drop_length]
    refine evK_loop c19_9 _ _ _ _ rfl ?_
    rcases kof_or 1 out with ⟨hk,rfl⟩ | hk
    · have en : intVs [] = [] := rfl
      have hz0 := hz [] st
      rw [en] at hz0
      rw [hk,en]
      simp [h0,h6,h7,hz0,matchG,mineG,en,-Int.not_le,-Int.not_lt,-Nat.not_le,-Nat.not_lt,ty3,ty4,ty22,ty29,ty32,ty39,ty42,hm,hl,hr,E19,n19_8]
    · rw [hk]
      simp [h0,h6,h7,hz,matchG,mineG,-Int.not_le,-Int.not_lt,-Nat.not_le,-Nat.not_lt,ty3,ty4,ty22,ty29,ty32,ty39,ty42,hm,hl,hr,E19,n19_8]
  | succ m ih =>
    intro i out e0 e6 e7 T X h0 h6 h7 hi hm2 ho
    obtain ⟨x,hx⟩ : ∃ x,g[i]? = some x := ⟨g[i]'(by omega),List.getElem?_eq_getElem (by omega)⟩
    have hd := drop_get hx
    have hlt : (i : Int) < (g.length : Int) := by omega
    obtain ⟨hlt2,hxe⟩ := List.getElem?_eq_some_iff.1 hx
    have hw : IntKind.wrap .i64 ((i : Int) + 1) = ((i + 1 : Nat) : Int) := by rw [wrap64 (by omega) (by omega)]; omega
    have hxg := hg x (List.mem_of_getElem? hx)
    rw [hd]
    refine evK_loop c19_9 _ _ _ _ rfl ?_
    have kk : ∀ (fr : Fr) (st : St),callStep gS (EvF gS) 44 [.slice (encPreds x.filter),.slice (encAttrs A)] fr st = some (.ok (.val (.bool (ftakes x.filter A))) fr st) := fun fr st => k44 x.filter A hxg.1 hA fr st
    cases hb : ftakes x.filter A with
    | false =>
      have IH := fun e0 e6 e7 T X h0 h6 h7 => ih (i + 1) out e0 e6 e7 T X h0 h6 h7 (by omega) (by omega) (by omega)
      rw [show matchG A i (x :: g.drop (i + 1)) out = matchG A (i + 1) (g.drop (i + 1)) out from by simp [matchG,mineG,hb]]
      rw [hb] at kk
      rcases kof_or 1 out with ⟨hk,rfl⟩ | hk
      · have en : intVs [] = [] := rfl
        rw [hk,en] at IH ⊢
        simp [-Int.natCast_add,h0,h6,h7,hx,hxe,hlt,hlt2,hw,kk,-Int.not_le,-Int.not_lt,-Nat.not_le,-Nat.not_lt,ty3,ty4,ty22,ty29,ty32,ty39,ty42,hm,hl,hr,E19,n19_8]
        refine IH _ _ _ _ _ ?_ ?_ ?_
        all_goals simp [h0,h6,h7]
      · rw [hk] at IH ⊢
        simp [-Int.natCast_add,h0,h6,h7,hx,hxe,hlt,hlt2,hw,kk,-Int.not_le,-Int.not_lt,-Nat.not_le,-Nat.not_lt,ty3,ty4,ty22,ty29,ty32,ty39,ty42,hm,hl,hr,E19,n19_8]
        refine IH _ _ _ _ _ ?_ ?_ ?_
        all_goals simp [h0,h6,h7]
    | true =>
      have IH := fun e0 e6 e7 T X h0 h6 h7 => ih (i + 1) (out ++ [(i : Int)]) e0 e6 e7 T X h0 h6 h7 (by omega) (by omega) (by simp; omega)
      rw [show matchG A i (x :: g.drop (i + 1)) out = matchG A (i + 1) (g.drop (i + 1)) (out ++ [(i : Int)]) from by simp [matchG,mineG,hb]]
      rw [hb] at kk
      rw [kof_snoc] at IH
      have hs1 := sizes_ints out
      have hs2 := ints_snoc out (i : Int)
      have b1 : (out.length + 1) * 8 ≤ 140737488355328 := by omega
      have b2 : out.length + 1 ≤ 140737488355328 := by omega
      rcases kof_or 1 out with ⟨hk,rfl⟩ | hk
      · have en : intVs [] = [] := rfl
        have en1 : intVs ([] ++ [(i : Int)]) = [.int .i64 (i : Int)] := rfl
        rw [en1] at IH
        rw [hk,en]
        simp [-Int.natCast_add,h0,h6,h7,hx,hxe,hlt,hlt2,hw,kk,-Int.not_le,-Int.not_lt,-Nat.not_le,-Nat.not_lt,ty3,ty4,ty22,ty29,ty32,ty39,ty42,hm,hl,hr,E19,n19_8]
        refine IH _ _ _ _ _ ?_ ?_ ?_
        all_goals simp [h0,h6,h7]
      · rw [hk]
        simp [-Int.natCast_add,-List.append_assoc,h0,h6,h7,hx,hxe,hlt,hlt2,hw,kk,hs1,hs2,b1,b2,-Int.not_le,-Int.not_lt,-Nat.not_le,-Nat.not_lt,ty3,ty4,ty22,ty29,ty32,ty39,ty42,hm,hl,hr,E19,n19_8]
        refine IH _ _ _ _ _ ?_ ?_ ?_
        all_goals simp [h0,h6,h7]
set_option maxHeartbeats 8000000 in
theorem c19 (g : List Grp) (hg : ∀ x ∈ g,POk x.filter ∧ x.clients.length < 1000) (hgl : g.length < 1000000) (A : List Attr) (hA : A.length < 4611686018427387904) (st : St) : EvF gS 19 [.slice (encGrps g),.slice (encAttrs A)] st = some (.ret (.slice (intVs (gmatch g A))) none,st) := by
  refine EvF_start fi59_eq (fun x h => by cases h) m19 ?_
  rw [st19]
  have hm : fi19.marks = [1000000] := rfl
  have hl : fi19.locals = [7] := rfl
  have hr : fi19.results = [.tmp 4] := rfl
  have L0 := fun e0 e6 e7 T X h0 h6 h7 => L19 g hg hgl A hA st g.length 0 [] e0 e6 e7 T X h0 h6 h7 (Nat.zero_le _) rfl (Nat.le_refl _)
  simp only [show ((0 : Nat) : Int) = 0 from rfl,List.drop_zero,show kof 1 ([] : List Int) = 0 from rfl,show intVs [] = [] from rfl] at L0
  show _ = some (Out.ret (V.slice (intVs (matchG A 0 g []))) none,st)
  simp [L0,-Int.not_le,-Int.not_lt,-Nat.not_le,-Nat.not_lt,ty3,ty4,ty22,ty29,ty32,ty39,ty42,hm,hl,hr,E19,n19_8]
theorem k19 (g : List Grp) (hg : ∀ x ∈ g,POk x.filter ∧ x.clients.length < 1000) (hgl : g.length < 1000000) (A : List Attr) (hA : A.length < 4611686018427387904) (fr : Fr) (st : St) : callStep gS (EvF gS) 19 [.slice (encGrps g),.slice (encAttrs A)] fr st = some (.ok (.val (.slice (intVs (gmatch g A)))) fr st) :=
  call_pure rfl fi59_eq rfl (fun st => c19 g hg hgl A hA st) (by simp [V.flat])
theorem x19 : gS.ext 19 = none := rfl
theorem p19 : fi19.pure = true := rfl
def fi24 : FI := { body := codeOf Try.f24,ntmps := 25,results := [.tmp 4],pers := [0,1,4,5,6,7,8,9,10],locals := [7],pure := true,marks := [1000000] }
theorem fi64_eq : gS.fn 24 = some fi24 := by kernel_rfl
theorem st24 (a0 a1 : V) : startFr fi24 [a0,a1] = { ps := [(0,.val a0),(1,.val a1),(4,.any),(5,.any),(6,.any),(7,.any),(8,.any),(9,.any),(10,.any)],ts := [],lc := [] } := rfl
def b24 : Code := mini (codeOf Try.f24)
def c24_22 : Code := codeN b24 11467
def c24_21 : Code := .cond (.tmp 18) c24_22 .skip
def c24_19 : Code := .seq (codeN b24 5323) c24_21
def c24_17 : Code := .seq (codeN b24 2251) c24_19
def c24_24 : Code := codeN b24 971
def c24_15 : Code := .seq (.block 1 c24_17) c24_24
def c24_11 : Code := .seq (.cond (.tmp 11) .skip (.exit 0)) c24_15
def c24_9 : Code := .seq (codeN b24 139) c24_11
def c24_8 : Code := .loop c24_9
def c24_7 : Code := .block 0 c24_8
def c24_5 : Code := .seq (codeN b24 19) c24_7
def c24_25 : Code := .seq (codeN b24 23) .ret
def c24_4 : Code := .seq c24_5 c24_25
def c24_2 : Code := .seq (codeN b24 5) c24_4
def c24_0 : Code := .seq (codeN b24 2) c24_2
theorem E24 : (evK gS fi24 c24_22 fr st k = opsR gS fi24 [mv 19 5 22,
 mv 20 6 3,
 op1 21 (.buildSlice 22 1 #[(0,(.tmp 20))]) 22,
 op1 22 (.call { callee := (.builtin .append),args := #[(.tmp 19),(.tmp 21)],argTypes := #[22,22] }) 22,
 asn 5 22 22] fr st k) ∧
 evK gS fi24 c24_21 fr st k = condK gS fi24 (fr.op (.tmp 18)).bool? c24_22 .skip fr st k ∧
 (evK gS fi24 c24_19 fr st k = opsR gS fi24 [op1 15 (.fieldAddr 39 (.tmp 7) 1) 0,
 ld 16 22 15 22,
 mv 17 1 3,
 cal 18 57 [(.tmp 16),(.tmp 17)] [22,3] 4] fr st (.seq c24_21 k)) ∧
 (evK gS fi24 c24_17 fr st k = opsR gS fi24 [mv 12 10 3,
 ixa 13 32 8 10 0,
 ld 14 39 13 39,
 op1 7 (.alloc 39) 0,
 asn 6 12 3,
 sto 39 7 14] fr st (.seq c24_19 k)) ∧
 (evK gS fi24 c24_24 fr st k = opsR gS fi24 [op1 23 (.binOp .add 3 (.tmp 10) (.const (.int .i64 1)) 3) 3,
 mv 10 23 3] fr st k) ∧
 evK gS fi24 c24_15 fr st k = evK gS fi24 c24_17 fr st (.blk 1 (.seq c24_24 k)) ∧
 evK gS fi24 c24_11 fr st k = condK gS fi24 (fr.op (.tmp 11)).bool? .skip (.exit 0) fr st (.seq c24_15 k) ∧
 evK gS fi24 c24_9 fr st k = opsR gS fi24 [bop 11 .lss 3 10 9 3 0] fr st (.seq c24_11 k) ∧
 evK gS fi24 c24_7 fr st k = evK gS fi24 c24_8 fr st (.blk 0 k) ∧
 (evK gS fi24 c24_5 fr st k = opsR gS fi24 [mv 8 0 32,
 len1 9 8 32 3,
 op1 10 (.move (.const (.int .i64 0))) 3] fr st (.seq c24_7 k)) ∧
 (evK gS fi24 c24_25 fr st k = opsR gS fi24 [mv 24 5 22,
 asn 4 24 22] fr st (.seq .ret k)) ∧
 evK gS fi24 c24_4 fr st k = evK gS fi24 c24_5 fr st (.seq c24_25 k) ∧
 evK gS fi24 c24_2 fr st k = opsR gS fi24 [op1 5 (.assign (.const (.slice none 0 0))) 22] fr st (.seq c24_4 k) ∧
 evK gS fi24 c24_0 fr st k = opsR gS fi24 [op1 4 (.assign (.const (.slice none 0 0))) 22] fr st (.seq c24_2 k) := ⟨evK_r 6 (by kernel_rfl),rfl,evK_rs 5 rfl (by kernel_rfl),evK_rs 4 rfl (by kernel_rfl),evK_r 7 (by kernel_rfl),rfl,rfl,evK_rs 3 rfl (by kernel_rfl),rfl,evK_rs 2 rfl (by kernel_rfl),evK_rs 8 rfl (by kernel_rfl),rfl,evK_rs 1 rfl (by kernel_rfl),evK_rs 0 rfl (by kernel_rfl)⟩
theorem m24 : mini fi24.body = c24_0 := by kernel_rfl
theorem n24_8 (fr : Fr) (st : St) (k : Kt) : nextK gS fi24 (.loop c24_9 k) .normal fr st = evK gS fi24 c24_8 fr st k := rfl
set_option maxHeartbeats 8000000 in
theorem L24 (g : List Grp) (hg : ∀ x ∈ g,POk x.filter ∧ x.clients.length < 1000) (hgl : g.length < 1000000) (c0 : Int) (st : St) : ∀ (m i : Nat) (out : List Int) (e0 e6 e7 : E) (T : List (Nat × E)) (X : List (Nat × List V)) (h0 : e0.Tame) (h6 : e6.Tame) (h7 : e7.Tame),i ≤ g.length → g.length - i = m → out.length ≤ i →
    evK gS fi24 c24_8 { ps := [(0,e0),(1,.val (.int .i64 c0)),(4,.own 0 []),(5,.own (kof 1 out) (intVs out)),(6,e6),(7,e7),(8,.val (.slice (encGrps g))),(9,.val (.int .i64 g.length)),(10,.val (.int .i64 (i : Nat)))],ts := T,lc := X } st (.blk 0 (.seq c24_25 .nil)) = some (.ret (.slice (intVs (mineG c0 i (g.drop i) out))) none,st) := by
  intro m
  have hm : fi24.marks = [1000000] := rfl
  have hl : fi24.locals = [7] := rfl
  have hr : fi24.results = [.tmp 4] := rfl
  have hz := fun xs st => frz_slice (xs := intVs xs) (flats_ints xs) st
  induction m with
  | zero =>
    intro i out e0 e6 e7 T X h0 h6 h7 hi hm2 ho
    obtain rfl : i = g.length := by omega
    rw [List.drop_length]
    refine evK_loop c24_9 _ _ _ _ rfl ?_
    rcases kof_or 1 out with ⟨hk,rfl⟩ | hk
    · have en : intVs [] = [] := rfl
      have hz0 := hz [] st
      rw [en] at hz0
      rw [hk,en]
      simp [h0,h6,h7,hz0,matchG,mineG,en,-Int.not_le,-Int.not_lt,-Nat.not_le,-Nat.not_lt,ty3,ty4,ty22,ty32,ty39,hm,hl,hr,E24,n24_8]
    · rw [hk]
      simp [h0,h6,h7,hz,matchG,mineG,-Int.not_le,-Int.not_lt,-Nat.not_le,-Nat.not_lt,ty3,ty4,ty22,ty32,ty39,hm,hl,hr,E24,n24_8]
  | succ m ih =>
    intro i out e0 e6 e7 T X h0 h6 h7 hi hm2 ho
    obtain ⟨x,hx⟩ : ∃ x,g[i]? = some x := ⟨g[i]'(by omega),List.getElem?_eq_getElem (by omega)⟩
    have hd := drop_get hx
    have hlt : (i : Int) < (g.length : Int) := by omega
    obtain ⟨hlt2,hxe⟩ := List.getElem?_eq_some_iff.1 hx
    have hw : IntKind.wrap .i64 ((i : Int) + 1) = ((i + 1 : Nat) : Int) := by rw [wrap64 (by omega) (by omega)]; omega
    have hxg := hg x (List.mem_of_getElem? hx)
    rw [hd]
    refine evK_loop c24_9 _ _ _ _ rfl ?_
    have kk : ∀ (fr : Fr) (st : St),callStep gS (EvF gS) 57 [.slice (intVs x.clients),.int .i64 c0] fr st = some (.ok (.val (.bool (hasI x.clients c0))) fr st) := fun fr st => k57 x.clients c0 (by have := hxg.2; omega) fr st
    cases hb : hasI x.clients c0 with
    | false =>
      have IH := fun e0 e6 e7 T X h0 h6 h7 => ih (i + 1) out e0 e6 e7 T X h0 h6 h7 (by omega) (by omega) (by omega)
      rw [show mineG c0 i (x :: g.drop (i + 1)) out = mineG c0 (i + 1) (g.drop (i + 1)) out from by simp [matchG,mineG,hb]]
      rw [hb] at kk
      rcases kof_or 1 out with ⟨hk,rfl⟩ | hk
      · have en : intVs [] = [] := rfl
        rw [hk,en] at IH ⊢
        simp [-Int.natCast_add,h0,h6,h7,hx,hxe,hlt,hlt2,hw,kk,-Int.not_le,-Int.not_lt,-Nat.not_le,-Nat.not_lt,ty3,ty4,ty22,ty32,ty39,hm,hl,hr,E24,n24_8]
        refine IH _ _ _ _ _ ?_ ?_ ?_
        all_goals simp [h0,h6,h7]
      · rw [hk] at IH ⊢
        simp [-Int.natCast_add,h0,h6,h7,hx,hxe,hlt,hlt2,hw,kk,-Int.not_le,-Int.not_lt,-Nat.not_le,-Nat.not_lt,ty3,ty4,ty22,ty32,ty39,hm,hl,hr,E24,n24_8]
        refine IH _ _ _ _ _ ?_ ?_ ?_
        all_goals simp [h0,h6,h7]
    | true =>
      have IH := fun e0 e6 e7 T X h0 h6 h7 => ih (i + 1) (out ++ [(i : Int)]) e0 e6 e7 T X h0 h6 h7 (by omega) (by omega) (by simp; omega)
      rw [show mineG c0 i (x :: g.drop (i + 1)) out = mineG c0 (i + 1) (g.drop (i + 1)) (out ++ [(i : Int)]) from by simp [matchG,mineG,hb]]
      rw [hb] at kk
      rw [kof_snoc] at IH
      have hs1 := sizes_ints out
      have hs2 := ints_snoc out (i : Int)
      have b1 : (out.length + 1) * 8 ≤ 140737488355328 := by omega
      have b2 : out.length + 1 ≤ 140737488355328 := by omega
      rcases kof_or 1 out with ⟨hk,rfl⟩ | hk
      · have en : intVs [] = [] := rfl
        have en1 : intVs ([] ++ [(i : Int)]) = [.int .i64 (i : Int)] := rfl
        rw [en1] at IH
        rw [hk,en]
        simp [-Int.natCast_add,h0,h6,h7,hx,hxe,hlt,hlt2,hw,kk,-Int.not_le,-Int.not_lt,-Nat.not_le,-Nat.not_lt,ty3,ty4,ty22,ty32,ty39,hm,hl,hr,E24,n24_8]
        refine IH _ _ _ _ _ ?_ ?_ ?_
        all_goals simp [h0,h6,h7]
      · rw [hk]
        simp [-Int.natCast_add,-List.append_assoc,h0,h6,h7,hx,hxe,hlt,hlt2,hw,kk,hs1,hs2,b1,b2,-Int.not_le,-Int.not_lt,-Nat.not_le,-Nat.not_lt,ty3,ty4,ty22,ty32,ty39,hm,hl,hr,E24,n24_8]
        refine IH _ _ _ _ _ ?_ ?_ ?_
        all_goals simp [h0,h6,h7]
set_option maxHeartbeats 8000000 in
theorem c24 (g : List Grp) (hg : ∀ x ∈ g,POk x.filter ∧ x.clients.length < 1000) (hgl : g.length < 1000000) (c0 : Int) (st : St) : EvF gS 24 [.slice (encGrps g),.int .i64 c0] st = some (.ret (.slice (intVs (gmine g c0))) none,st) := by
  refine EvF_start fi64_eq (fun x h => by cases h) m24 ?_
  rw [st24]
  have hm : fi24.marks = [1000000] := rfl
  have hl : fi24.locals = [7] := rfl
  have hr : fi24.results = [.tmp 4] := rfl
  have L0 := fun e0 e6 e7 T X h0 h6 h7 => L24 g hg hgl c0 st g.length 0 [] e0 e6 e7 T X h0 h6 h7 (Nat.zero_le _) rfl (Nat.le_refl _)
  simp only [show ((0 : Nat) : Int) = 0 from rfl,List.drop_zero,show kof 1 ([] : List Int) = 0 from rfl,show intVs [] = [] from rfl] at L0
  show _ = some (Out.ret (V.slice (intVs (mineG c0 0 g []))) none,st)
  simp [L0,-Int.not_le,-Int.not_lt,-Nat.not_le,-Nat.not_lt,ty3,ty4,ty22,ty32,ty39,hm,hl,hr,E24,n24_8]
theorem k24 (g : List Grp) (hg : ∀ x ∈ g,POk x.filter ∧ x.clients.length < 1000) (hgl : g.length < 1000000) (c0 : Int) (fr : Fr) (st : St) : callStep gS (EvF gS) 24 [.slice (encGrps g),.int .i64 c0] fr st = some (.ok (.val (.slice (intVs (gmine g c0)))) fr st) :=
  call_pure rfl fi64_eq rfl (fun st => c24 g hg hgl c0 st) (by simp [V.flat])
theorem x24 : gS.ext 24 = none := rfl
theorem p24 : fi24.pure = true := rfl
def fi20 : FI := { body := codeOf Try.f20,ntmps := 40,results := [.tmp 4],pers := [0,1,4,5,7,9,10,11,12,28,29,30],locals := [],pure := true,marks := [1000000] }
theorem fi60_eq : gS.fn 20 = some fi20 := by kernel_rfl
theorem st20 (a0 a1 : V) : startFr fi20 [a0,a1] = { ps := [(0,.val a0),(1,.val a1),(4,.any),(5,.any),(7,.any),(9,.any),(10,.any),(11,.any),(12,.any),(28,.any),(29,.any),(30,.any)],ts := [],lc := [] } := rfl
def b20 : Code := mini (codeOf Try.f20)
def c20_22 : Code := .cond (.tmp 23) (.exit 1) .skip
def c20_20 : Code := .seq (codeN b20 9419) c20_22
def c20_39 : Code := codeN b20 1678539
def c20_37 : Code := .seq (codeN b20 1154251) c20_39
def c20_40 : Code := codeN b20 498891
def c20_35 : Code := .seq (.block 3 c20_37) c20_40
def c20_31 : Code := .seq (.cond (.tmp 31) .skip (.exit 2)) c20_35
def c20_29 : Code := .seq (codeN b20 72907) c20_31
def c20_28 : Code := .loop c20_29
def c20_27 : Code := .block 2 c20_28
def c20_25 : Code := .seq (codeN b20 11467) c20_27
def c20_19 : Code := .seq c20_20 c20_25
def c20_17 : Code := .seq (codeN b20 2251) c20_19
def c20_41 : Code := codeN b20 971
theorem e20_41 : evK gS fi20 c20_41 fr st k = opsR gS fi20 [op1 38 (.binOp .add 3 (.tmp 12) (.const (.int .i64 1)) 3) 3,
 mv 12 38 3] fr st k := evK_r 11 (by kernel_rfl)
def c20_15 : Code := .seq (.block 1 c20_17) c20_41
def c20_11 : Code := .seq (.cond (.tmp 13) .skip (.exit 0)) c20_15
def c20_9 : Code := .seq (codeN b20 139) c20_11
def c20_8 : Code := .loop c20_9
def c20_7 : Code := .block 0 c20_8
def c20_5 : Code := .seq (codeN b20 19) c20_7
def c20_42 : Code := .seq (codeN b20 23) .ret
def c20_4 : Code := .seq c20_5 c20_42
def c20_2 : Code := .seq (codeN b20 5) c20_4
def c20_0 : Code := .seq (codeN b20 2) c20_2
theorem E20 : evK gS fi20 c20_22 fr st k = condK gS fi20 (fr.op (.tmp 23)).bool? (.exit 1) .skip fr st k ∧
 (evK gS fi20 c20_20 fr st k = opsR gS fi20 [mv 16 7 3,
 op1 17 (.binOp .lss 3 (.tmp 16) (.const (.int .i64 0)) 3) 4,
 mv 18 17 4,
 mk (some 19) (.move (.tmp 7)) 3 (some (2,false)),
 mk (some 20) (.move (.tmp 0)) 32 (some (2,false)),
 mk (some 21) (.call { callee := (.builtin .len),args := #[(.tmp 20)],argTypes := #[32] }) 3 (some (2,false)),
 mk (some 22) (.binOp .geq 3 (.tmp 19) (.tmp 21) 3) 4 (some (2,false)),
 op1 23 (.pick (.tmp 18) (.const (.bool true)) (.tmp 22)) 4] fr st (.seq c20_22 k)) ∧
 (evK gS fi20 c20_39 fr st k = opsR gS fi20 [mv 34 5 22,
 mv 35 9 3,
 cal 36 51 [(.tmp 34),(.tmp 35)] [22,3] 22,
 asn 5 36 22] fr st k) ∧
 (evK gS fi20 c20_37 fr st k = opsR gS fi20 [ixa 32 22 28 30 0,
 ld 33 3 32 3,
 asn 9 33 3] fr st (.seq c20_39 k)) ∧
 (evK gS fi20 c20_40 fr st k = opsR gS fi20 [op1 37 (.binOp .add 3 (.tmp 30) (.const (.int .i64 1)) 3) 3,
 mv 30 37 3] fr st k) ∧
 evK gS fi20 c20_35 fr st k = evK gS fi20 c20_37 fr st (.blk 3 (.seq c20_40 k)) ∧
 evK gS fi20 c20_31 fr st k = condK gS fi20 (fr.op (.tmp 31)).bool? .skip (.exit 2) fr st (.seq c20_35 k) ∧
 evK gS fi20 c20_29 fr st k = opsR gS fi20 [bop 31 .lss 3 30 29 3 0] fr st (.seq c20_31 k) ∧
 evK gS fi20 c20_27 fr st k = evK gS fi20 c20_28 fr st (.blk 2 k) ∧
 (evK gS fi20 c20_25 fr st k = opsR gS fi20 [mv 24 0 32,
 mv 25 7 3,
 ixa 26 32 24 25 0,
 op1 27 (.fieldAddr 39 (.tmp 26) 1) 0,
 ld 28 22 27 22,
 len1 29 28 22 3,
 op1 30 (.move (.const (.int .i64 0))) 3] fr st (.seq c20_27 k)) ∧
 evK gS fi20 c20_19 fr st k = evK gS fi20 c20_20 fr st (.seq c20_25 k) ∧
 (evK gS fi20 c20_17 fr st k = opsR gS fi20 [ixa 14 22 10 12 0,
 ld 15 3 14 3,
 asn 7 15 3] fr st (.seq c20_19 k)) ∧
 evK gS fi20 c20_15 fr st k = evK gS fi20 c20_17 fr st (.blk 1 (.seq c20_41 k)) ∧
 evK gS fi20 c20_11 fr st k = condK gS fi20 (fr.op (.tmp 13)).bool? .skip (.exit 0) fr st (.seq c20_15 k) ∧
 evK gS fi20 c20_9 fr st k = opsR gS fi20 [bop 13 .lss 3 12 11 3 0] fr st (.seq c20_11 k) ∧
 evK gS fi20 c20_7 fr st k = evK gS fi20 c20_8 fr st (.blk 0 k) ∧
 (evK gS fi20 c20_5 fr st k = opsR gS fi20 [mv 10 1 22,
 len1 11 10 22 3,
 op1 12 (.move (.const (.int .i64 0))) 3] fr st (.seq c20_7 k)) ∧
 (evK gS fi20 c20_42 fr st k = opsR gS fi20 [mv 39 5 22,
 asn 4 39 22] fr st (.seq .ret k)) ∧
 evK gS fi20 c20_4 fr st k = evK gS fi20 c20_5 fr st (.seq c20_42 k) ∧
 evK gS fi20 c20_2 fr st k = opsR gS fi20 [op1 5 (.assign (.const (.slice none 0 0))) 22] fr st (.seq c20_4 k) ∧
 evK gS fi20 c20_0 fr st k = opsR gS fi20 [op1 4 (.assign (.const (.slice none 0 0))) 22] fr st (.seq c20_2 k) := ⟨rfl,evK_rs 5 rfl (by kernel_rfl),evK_r 9 (by kernel_rfl),evK_rs 8 rfl (by kernel_rfl),evK_r 10 (by kernel_rfl),rfl,rfl,evK_rs 7 rfl (by kernel_rfl),rfl,evK_rs 6 rfl (by kernel_rfl),rfl,evK_rs 4 rfl (by kernel_rfl),rfl,rfl,evK_rs 3 rfl (by kernel_rfl),rfl,evK_rs 2 rfl (by kernel_rfl),evK_rs 12 rfl (by kernel_rfl),rfl,evK_rs 1 rfl (by kernel_rfl),evK_rs 0 rfl (by kernel_rfl)⟩
theorem m20 : mini fi20.body = c20_0 := by kernel_rfl
theorem n20_28 (fr : Fr) (st : St) (k : Kt) : nextK gS fi20 (.loop c20_29 k) .normal fr st = evK gS fi20 c20_28 fr st k := rfl
theorem n20_8 (fr : Fr) (st : St) (k : Kt) : nextK gS fi20 (.loop c20_9 k) .normal fr st = evK gS fi20 c20_8 fr st k := rfl
def OutE (e : E) (l : List Int) : Prop := (e = .own 0 [] ∧ l = []) ∨ e = .val (.slice (intVs l))
set_option maxHeartbeats 8000000 in
theorem L20_28 (g : List Grp) (ms cs : List Int) (io : Nat) (e1 e7 : E) (h1 : e1.Tame) (h7 : e7.Tame) (st : St) (X : List (Nat × List V)) (fin : List Int) (R : Out × St) (hcs : cs.length < 1000)
    (H : ∀ e5 e9 T,OutE e5 fin → e9.Tame → evK gS fi20 c20_41 { ps := [(0,.val (.slice (encGrps g))),(1,e1),(4,.own 0 []),(5,e5),(7,e7),(9,e9),(10,.val (.slice (intVs ms))),(11,.val (.int .i64 ms.length)),(12,.val (.int .i64 (io : Nat))),(28,.val (.slice (intVs cs))),(29,.val (.int .i64 cs.length)),(30,.val (.int .i64 cs.length))],ts := T,lc := X } st (.loop c20_9 (.blk 0 (.seq c20_42 .nil))) = some R) :
    ∀ (m i : Nat) (acc : List Int) (e5 e28 e9 : E) (h5 : OutE e5 acc) (h28 : e28.calm = .val (.slice (intVs cs))) (h9 : e9.Tame) (T : List (Nat × E)),i ≤ cs.length → cs.length - i = m → acc.length + (cs.length - i) < 1000000 → fin = (cs.drop i).foldl layI acc →
    evK gS fi20 c20_28 { ps := [(0,.val (.slice (encGrps g))),(1,e1),(4,.own 0 []),(5,e5),(7,e7),(9,e9),(10,.val (.slice (intVs ms))),(11,.val (.int .i64 ms.length)),(12,.val (.int .i64 (io : Nat))),(28,e28),(29,.val (.int .i64 cs.length)),(30,.val (.int .i64 (i : Nat)))],ts := T,lc := X } st (.blk 2 (.blk 1 (.seq c20_41 (.loop c20_9 (.blk 0 (.seq c20_42 .nil)))))) = some R := by
  intro m
  have hm : fi20.marks = [1000000] := rfl
  have hl : fi20.locals = [] := rfl
  have hr : fi20.results = [.tmp 4] := rfl
  induction m with
  | zero =>
    intro i acc e5 e28 e9 h5 h28 h9 T hi hm2 hb hf
    obtain rfl : i = cs.length := by omega
    rw [List.drop_length,List.foldl_nil] at hf
    subst hf
    refine evK_loop c20_29 _ _ _ _ rfl ?_
    rcases h5 with ⟨rfl,rfl⟩ | rfl
    · simp [h1,h7,h9,h28,-Int.not_le,-Int.not_lt,-Nat.not_le,-Nat.not_lt,ty3,ty4,ty22,ty32,ty39,hm,hl,hr,E20,n20_28,n20_8]
      exact H _ _ _ (.inl ⟨rfl,rfl⟩) h9
    · simp [h1,h7,h9,h28,-Int.not_le,-Int.not_lt,-Nat.not_le,-Nat.not_lt,ty3,ty4,ty22,ty32,ty39,hm,hl,hr,E20,n20_28,n20_8]
      exact H _ _ _ (.inr rfl) h9
  | succ m ih =>
    intro i acc e5 e28 e9 h5 h28 h9 T hi hm2 hb hf
    obtain ⟨x,hx⟩ : ∃ x,cs[i]? = some x := ⟨cs[i]'(by omega),List.getElem?_eq_getElem (by omega)⟩
    have hd := drop_get hx
    have hlt : (i : Int) < (cs.length : Int) := by omega
    obtain ⟨hlt2,hxe⟩ := List.getElem?_eq_some_iff.1 hx
    have hw : IntKind.wrap .i64 ((i : Int) + 1) = ((i + 1 : Nat) : Int) := by rw [wrap64 (by omega) (by omega)]; omega
    rw [hd,List.foldl_cons] at hf
    have hll := layI_len acc x
    have IH := fun e5 e9 h5 h9 T => ih (i + 1) (layI acc x) e5 (.val (.slice (intVs cs))) e9 h5 rfl h9 T (by omega) (by omega) (by omega) hf
    have kk := fun fr st => k51 acc (by omega) x fr st
    refine evK_loop c20_29 _ _ _ _ rfl ?_
    rcases h5 with ⟨rfl,rfl⟩ | rfl
    · rw [show intVs [] = [] from rfl] at kk
      simp [-Int.natCast_add,h1,h7,h9,h28,hx,hxe,hlt,hlt2,hw,kk,-Int.not_le,-Int.not_lt,-Nat.not_le,-Nat.not_lt,ty3,ty4,ty22,ty32,ty39,hm,hl,hr,E20,n20_28,n20_8]
      exact IH _ _ (.inr rfl) (tame_val _) _
    · simp [-Int.natCast_add,h1,h7,h9,h28,hx,hxe,hlt,hlt2,hw,kk,-Int.not_le,-Int.not_lt,-Nat.not_le,-Nat.not_lt,ty3,ty4,ty22,ty32,ty39,hm,hl,hr,E20,n20_28,n20_8]
      exact IH _ _ (.inr rfl) (tame_val _) _
set_option maxHeartbeats 8000000 in
theorem L20 (g : List Grp) (hg : ∀ x ∈ g,x.clients.length < 1000) (hgl : g.length < 1000000) (ms : List Int) (hms : ms.length ≤ 500) (e1 : E) (h1 : e1.Tame) (st : St) (X : List (Nat × List V)) :
    ∀ (m i : Nat) (acc : List Int) (e5 e7 e9 e28 e29 e30 : E) (h5 : OutE e5 acc) (h7 : e7.Tame) (h9 : e9.Tame) (h28 : e28.Tame) (h29 : e29.Tame) (h30 : e30.Tame) (T : List (Nat × E)),i ≤ ms.length → ms.length - i = m → acc.length ≤ 1000 * i →
    evK gS fi20 c20_8 { ps := [(0,.val (.slice (encGrps g))),(1,e1),(4,.own 0 []),(5,e5),(7,e7),(9,e9),(10,.val (.slice (intVs ms))),(11,.val (.int .i64 ms.length)),(12,.val (.int .i64 (i : Nat))),(28,e28),(29,e29),(30,e30)],ts := T,lc := X } st (.blk 0 (.seq c20_42 .nil)) = some (.ret (.slice (intVs ((ms.drop i).foldl (rdStep g) acc))) none,st) := by
  intro m
  have hm : fi20.marks = [1000000] := rfl
  have hl : fi20.locals = [] := rfl
  have hr : fi20.results = [.tmp 4] := rfl
  induction m with
  | zero =>
    intro i acc e5 e7 e9 e28 e29 e30 h5 h7 h9 h28 h29 h30 T hi hm2 hb
    obtain rfl : i = ms.length := by omega
    rw [List.drop_length,List.foldl_nil]
    have hz := frz_slice (xs := intVs acc) (flats_ints acc) st
    refine evK_loop c20_9 _ _ _ _ rfl ?_
    rcases h5 with ⟨rfl,rfl⟩ | rfl
    · rw [show intVs [] = [] from rfl] at hz ⊢
      simp [h1,h7,h9,h28,h29,h30,hz,-Int.not_le,-Int.not_lt,-Nat.not_le,-Nat.not_lt,ty3,ty4,ty22,ty32,ty39,hm,hl,hr,E20,e20_41,n20_28,n20_8]
    · simp [h1,h7,h9,h28,h29,h30,hz,-Int.not_le,-Int.not_lt,-Nat.not_le,-Nat.not_lt,ty3,ty4,ty22,ty32,ty39,hm,hl,hr,E20,e20_41,n20_28,n20_8]
  | succ m ih =>
    intro i acc e5 e7 e9 e28 e29 e30 h5 h7 h9 h28 h29 h30 T hi hm2 hb
    obtain ⟨x,hx⟩ : ∃ x,ms[i]? = some x := ⟨ms[i]'(by omega),List.getElem?_eq_getElem (by omega)⟩
    have hd := drop_get hx
    have hlt : (i : Int) < (ms.length : Int) := by omega
    obtain ⟨hlt2,hxe⟩ := List.getElem?_eq_some_iff.1 hx
    have hw : IntKind.wrap .i64 ((i : Int) + 1) = ((i + 1 : Nat) : Int) := by rw [wrap64 (by omega) (by omega)]; omega
    rw [hd,List.foldl_cons]
    by_cases hx0 : x < 0
    · have hr : rdStep g acc x = acc := by unfold rdStep; rw [if_pos (.inl hx0)]
      rw [hr]
      have IH := fun e5 e7 e9 e28 e29 e30 h5 h7 h9 h28 h29 h30 T => ih (i + 1) acc e5 e7 e9 e28 e29 e30 h5 h7 h9 h28 h29 h30 T (by omega) (by omega) (by omega)
      refine evK_loop c20_9 _ _ _ _ rfl ?_
      rcases h5 with ⟨rfl,rfl⟩ | rfl
      · simp [-Int.natCast_add,h1,h7,h9,h28,h29,h30,hx,hxe,hlt,hlt2,hw,hx0,-Int.not_le,-Int.not_lt,-Nat.not_le,-Nat.not_lt,ty3,ty4,ty22,ty32,ty39,hm,hl,hr,E20,e20_41,n20_28,n20_8]
        exact IH _ _ _ _ _ _ (.inl ⟨rfl,rfl⟩) (tame_val _) h9 h28 h29 h30 _
      · simp [-Int.natCast_add,h1,h7,h9,h28,h29,h30,hx,hxe,hlt,hlt2,hw,hx0,-Int.not_le,-Int.not_lt,-Nat.not_le,-Nat.not_lt,ty3,ty4,ty22,ty32,ty39,hm,hl,hr,E20,e20_41,n20_28,n20_8]
        exact IH _ _ _ _ _ _ (.inr rfl) (tame_val _) h9 h28 h29 h30 _
    · obtain ⟨k,rfl⟩ : ∃ k : Nat,x = (k : Int) := ⟨x.toNat,by omega⟩
      by_cases hk : k < g.length
      · obtain ⟨y,hy⟩ : ∃ y,g[k]? = some y := ⟨g[k]'hk,List.getElem?_eq_getElem hk⟩
        have hye : g[k]'hk = y := (List.getElem?_eq_some_iff.1 hy).2
        have hyc := hg y (List.mem_of_getElem? hy)
        have hr : rdStep g acc k = y.clients.foldl layI acc := by
          unfold rdStep; rw [if_neg (by omega),Int.toNat_natCast,hy]; rfl
        rw [hr]
        have hfl : ∀ (cs acc : List Int),(cs.foldl layI acc).length ≤ acc.length + cs.length := by
          intro cs
          induction cs with
          | nil => intro acc; simp
          | cons c r ihc =>
            intro acc
            have h1 := ihc (layI acc c)
            have h2 := layI_len acc c
            simp only [List.foldl_cons,List.length_cons]; omega
        have hfl2 := hfl y.clients acc
        have IH := fun e5 e7 e9 e28 e29 e30 h5 h7 h9 h28 h29 h30 T => ih (i + 1) (y.clients.foldl layI acc) e5 e7 e9 e28 e29 e30 h5 h7 h9 h28 h29 h30 T (by omega) (by omega) (by omega)
        generalize hR : (Out.ret (V.slice (intVs ((ms.drop (i + 1)).foldl (rdStep g) (y.clients.foldl layI acc)))) none,st) = R at IH ⊢
        have H41 : ∀ e5 e9 T,OutE e5 (y.clients.foldl layI acc) → e9.Tame → evK gS fi20 c20_41 { ps := [(0,.val (.slice (encGrps g))),(1,e1),(4,.own 0 []),(5,e5),(7,.val (.int .i64 k)),(9,e9),(10,.val (.slice (intVs ms))),(11,.val (.int .i64 ms.length)),(12,.val (.int .i64 (i : Nat))),(28,.val (.slice (intVs y.clients))),(29,.val (.int .i64 y.clients.length)),(30,.val (.int .i64 y.clients.length))],ts := T,lc := X } st (.loop c20_9 (.blk 0 (.seq c20_42 .nil))) = some R := by
          intro e5 e9 T h5 h9
          rcases h5 with ⟨rfl,hq⟩ | rfl
          · simp [-Int.natCast_add,h1,h9,hw,-Int.not_le,-Int.not_lt,-Nat.not_le,-Nat.not_lt,ty3,ty4,ty22,ty32,ty39,hm,hl,hr,E20,e20_41,n20_28,n20_8]
            exact IH _ _ _ _ _ _ (.inl ⟨rfl,hq⟩) (tame_val _) h9 (tame_val _) (tame_val _) (tame_val _) _
          · simp [-Int.natCast_add,h1,h9,hw,-Int.not_le,-Int.not_lt,-Nat.not_le,-Nat.not_lt,ty3,ty4,ty22,ty32,ty39,hm,hl,hr,E20,e20_41,n20_28,n20_8]
            exact IH _ _ _ _ _ _ (.inr rfl) (tame_val _) h9 (tame_val _) (tame_val _) (tame_val _) _
        have LL := fun e5 e28 e9 h5 h28 h9 T => L20_28 g ms y.clients i e1 (.val (.int .i64 k)) h1 rfl st X (y.clients.foldl layI acc) R hyc H41 y.clients.length 0 acc e5 e28 e9 h5 h28 h9 T (Nat.zero_le _) rfl (by omega) rfl
        rw [show ((0 : Nat) : Int) = 0 from rfl] at LL
        have hk1 : ¬ ((g.length : Int) ≤ (k : Int)) := by omega
        have hk2 : ¬ (g.length ≤ k) := by omega
        have hk3 : (k : Int) < (g.length : Int) := by omega
        have hk0 : ¬ ((k : Int) < 0) := by omega
        refine evK_loop c20_9 _ _ _ _ rfl ?_
        rcases h5 with ⟨rfl,rfl⟩ | rfl
        · simp [-Int.natCast_add,h1,h7,h9,h28,h29,h30,hx,hxe,hlt,hlt2,hk,hk0,hk1,hk2,hk3,hy,hye,-Int.not_le,-Int.not_lt,-Nat.not_le,-Nat.not_lt,ty3,ty4,ty22,ty32,ty39,hm,hl,hr,E20,e20_41,n20_28,n20_8]
          exact LL _ _ _ (.inl ⟨rfl,rfl⟩) rfl h9 _
        · simp [-Int.natCast_add,h1,h7,h9,h28,h29,h30,hx,hxe,hlt,hlt2,hk,hk0,hk1,hk2,hk3,hy,hye,-Int.not_le,-Int.not_lt,-Nat.not_le,-Nat.not_lt,ty3,ty4,ty22,ty32,ty39,hm,hl,hr,E20,e20_41,n20_28,n20_8]
          exact LL _ _ _ (.inr rfl) rfl h9 _
      · have hr : rdStep g acc k = acc := by unfold rdStep; rw [if_pos (.inr (by omega))]
        rw [hr]
        have IH := fun e5 e7 e9 e28 e29 e30 h5 h7 h9 h28 h29 h30 T => ih (i + 1) acc e5 e7 e9 e28 e29 e30 h5 h7 h9 h28 h29 h30 T (by omega) (by omega) (by omega)
        have hk1 : (g.length : Int) ≤ (k : Int) := by omega
        have hk2 : g.length ≤ k := by omega
        have hk0 : ¬ ((k : Int) < 0) := by omega
        refine evK_loop c20_9 _ _ _ _ rfl ?_
        rcases h5 with ⟨rfl,rfl⟩ | rfl
        · simp [-Int.natCast_add,h1,h7,h9,h28,h29,h30,hx,hxe,hlt,hlt2,hw,hk0,hk1,hk2,-Int.not_le,-Int.not_lt,-Nat.not_le,-Nat.not_lt,ty3,ty4,ty22,ty32,ty39,hm,hl,hr,E20,e20_41,n20_28,n20_8]
          exact IH _ _ _ _ _ _ (.inl ⟨rfl,rfl⟩) (tame_val _) h9 h28 h29 h30 _
        · simp [-Int.natCast_add,h1,h7,h9,h28,h29,h30,hx,hxe,hlt,hlt2,hw,hk0,hk1,hk2,-Int.not_le,-Int.not_lt,-Nat.not_le,-Nat.not_lt,ty3,ty4,ty22,ty32,ty39,hm,hl,hr,E20,e20_41,n20_28,n20_8]
          exact IH _ _ _ _ _ _ (.inr rfl) (tame_val _) h9 h28 h29 h30 _
set_option maxHeartbeats 8000000 in
theorem c20 (g : List Grp) (hg : ∀ x ∈ g,x.clients.length < 1000) (hgl : g.length < 1000000) (ms : List Int) (hms : ms.length ≤ 500) (st : St) : EvF gS 20 [.slice (encGrps g),.slice (intVs ms)] st = some (.ret (.slice (intVs (greaders g ms))) none,st) := by
  refine EvF_start fi60_eq (fun x h => by cases h) m20 ?_
  rw [st20]
  have hm : fi20.marks = [1000000] := rfl
  have hl : fi20.locals = [] := rfl
  have hr : fi20.results = [.tmp 4] := rfl
  have L0 := fun e1 e7 e9 e28 e29 e30 T X h1 h7 h9 h28 h29 h30 => L20 g hg hgl ms hms e1 h1 st X ms.length 0 [] (.own 0 []) e7 e9 e28 e29 e30 (.inl ⟨rfl,rfl⟩) h7 h9 h28 h29 h30 T (Nat.zero_le _) rfl (Nat.zero_le _)
  simp only [show ((0 : Nat) : Int) = 0 from rfl,List.drop_zero] at L0
  show _ = some (Out.ret (V.slice (intVs (ms.foldl (rdStep g) []))) none,st)
  simp [L0,-Int.not_le,-Int.not_lt,-Nat.not_le,-Nat.not_lt,ty3,ty4,ty22,ty32,ty39,hm,hl,hr,E20,e20_41,n20_28,n20_8]
theorem k20 (g : List Grp) (hg : ∀ x ∈ g,x.clients.length < 1000) (hgl : g.length < 1000000) (ms : List Int) (hms : ms.length ≤ 500) (fr : Fr) (st : St) : callStep gS (EvF gS) 20 [.slice (encGrps g),.slice (intVs ms)] fr st = some (.ok (.val (.slice (intVs (greaders g ms)))) fr st) :=
  call_pure rfl fi60_eq rfl (fun st => c20 g hg hgl ms hms st) (by simp [V.flat])
theorem x20 : gS.ext 20 = none := rfl
theorem p20 : fi20.pure = true := rfl
theorem k50 (f : List Pred) (h_f : PSm f) (fr : Fr) (st : St) : callStep gS (EvF gS) 50 [.slice (encPreds f)] fr st = some (.ok (.val (.slice (encPreds f))) fr st) :=
  call_pure' rfl fi45_eq rfl (by simp [flats,V.flat]) (c50 f h_f ⟨[],0⟩ (Nat.le_refl _)) (by simp [V.flat])
def CLo (v : V) (l : List Int) : Prop := (v = .osl 0 [] ∧ l = []) ∨ v = .slice (intVs l)
def fi12 : FI := { body := codeOf Try.f12,ntmps := 67,results := [.tmp 2],pers := [0,2,3,4,5,6,8,9,11,12,13,14,21,22,23,43,44,45],locals := [5,8,9,11],pure := false,marks := [1000000] }
theorem fi54_eq : gS.fn 12 = some fi12 := by kernel_rfl
theorem st12 (a0 : V) : startFr fi12 [a0] = { ps := [(0,.val a0),(2,.any),(3,.any),(4,.any),(5,.any),(6,.any),(8,.any),(9,.any),(11,.any),(12,.any),(13,.any),(14,.any),(21,.any),(22,.any),(23,.any),(43,.any),(44,.any),(45,.any)],ts := [],lc := [] } := rfl
def b12 : Code := mini (codeOf Try.f12)
def c12_36 : Code := codeN b12 3353803
def c12_34 : Code := .seq (codeN b12 2305227) c12_36
def c12_37 : Code := codeN b12 994507
def c12_32 : Code := .seq (.block 3 c12_34) c12_37
def c12_28 : Code := .seq (.cond (.tmp 24) .skip (.exit 2)) c12_32
def c12_26 : Code := .seq (codeN b12 142539) c12_28
def c12_25 : Code := .loop c12_26
def c12_24 : Code := .block 2 c12_25
def c12_22 : Code := .seq (codeN b12 19659) c12_24
def c12_41 : Code := .cond (.tmp 38) (.exit 1) .skip
def c12_39 : Code := .seq (codeN b12 40139) c12_41
def c12_64 : Code := codeN b12 93945035
def c12_63 : Code := .cond (.tmp 53) c12_64 .skip
def c12_61 : Code := .seq (codeN b12 43613387) c12_63
def c12_59 : Code := .seq (codeN b12 18447563) c12_61
def c12_66 : Code := codeN b12 7961803
def c12_57 : Code := .seq (.block 5 c12_59) c12_66
def c12_53 : Code := .seq (.cond (.tmp 46) .skip (.exit 4)) c12_57
def c12_51 : Code := .seq (codeN b12 1146059) c12_53
def c12_50 : Code := .loop c12_51
def c12_49 : Code := .block 4 c12_50
def c12_47 : Code := .seq (codeN b12 163019) c12_49
def c12_67 : Code := codeN b12 130251
theorem e12_67 : evK gS fi12 c12_67 fr st k = opsR gS fi12 [mv 61 3 32,
 ld 62 39 9 39,
 op1 63 (.buildSlice 32 1 #[(0,(.tmp 62))]) 32,
 op1 64 (.call { callee := (.builtin .append),args := #[(.tmp 61),(.tmp 63)],argTypes := #[32,32] }) 32,
 asn 3 64 32] fr st k := evK_r 19 (by kernel_rfl)
def c12_46 : Code := .seq c12_47 c12_67
def c12_44 : Code := .seq (codeN b12 48331) c12_46
def c12_38 : Code := .seq c12_39 c12_44
theorem e12_38 : evK gS fi12 c12_38 fr st k = evK gS fi12 c12_39 fr st (.seq c12_44 k) := rfl
def c12_21 : Code := .seq c12_22 c12_38
def c12_19 : Code := .seq (codeN b12 5323) c12_21
def c12_17 : Code := .seq (codeN b12 2251) c12_19
def c12_68 : Code := codeN b12 971
def c12_15 : Code := .seq (.block 1 c12_17) c12_68
def c12_11 : Code := .seq (.cond (.tmp 15) .skip (.exit 0)) c12_15
def c12_9 : Code := .seq (codeN b12 139) c12_11
def c12_8 : Code := .loop c12_9
def c12_7 : Code := .block 0 c12_8
def c12_5 : Code := .seq (codeN b12 19) c12_7
def c12_69 : Code := .seq (codeN b12 23) .ret
def c12_4 : Code := .seq c12_5 c12_69
def c12_2 : Code := .seq (codeN b12 5) c12_4
def c12_0 : Code := .seq (codeN b12 2) c12_2
theorem E12 : (evK gS fi12 c12_36 fr st k = opsR gS fi12 [mv 27 6 4,
 mv 28 27 4,
 mk (some 29) (.fieldAddr 31 (.tmp 5) 3) 0 (some (1,true)),
 mk (some 30) (.load 29 (.tmp 29)) 29 (some (1,true)),
 mk (some 31) (.fieldAddr 31 (.tmp 8) 3) 0 (some (1,true)),
 mk (some 32) (.load 29 (.tmp 31)) 29 (some (1,true)),
 mk (some 33) (.call { callee := (.value (.func 49)),args := #[(.tmp 30),(.tmp 32)],argTypes := #[29,29] }) 4 (some (1,true)),
 mk (some 34) (.unOp .not 4 (.tmp 33)) 4 (some (1,true)),
 op1 35 (.pick (.tmp 28) (.tmp 34) (.const (.bool false))) 4,
 asn 6 35 4] fr st k) ∧
 (evK gS fi12 c12_34 fr st k = opsR gS fi12 [ixa 25 26 21 23 0,
 ld 26 31 25 31,
 op1 8 (.alloc 31) 0,
 sto 31 8 26] fr st (.seq c12_36 k)) ∧
 (evK gS fi12 c12_37 fr st k = opsR gS fi12 [op1 36 (.binOp .add 3 (.tmp 23) (.const (.int .i64 1)) 3) 3,
 mv 23 36 3] fr st k) ∧
 evK gS fi12 c12_32 fr st k = evK gS fi12 c12_34 fr st (.blk 3 (.seq c12_37 k)) ∧
 evK gS fi12 c12_28 fr st k = condK gS fi12 (fr.op (.tmp 24)).bool? .skip (.exit 2) fr st (.seq c12_32 k) ∧
 evK gS fi12 c12_26 fr st k = opsR gS fi12 [bop 24 .lss 3 23 22 3 0] fr st (.seq c12_28 k) ∧
 evK gS fi12 c12_24 fr st k = evK gS fi12 c12_25 fr st (.blk 2 k) ∧
 (evK gS fi12 c12_22 fr st k = opsR gS fi12 [mv 19 0 26,
 mv 20 4 3,
 op1 21 (.slice 26 (.tmp 19) none (some (.tmp 20)) none) 26,
 len1 22 21 26 3,
 op1 23 (.move (.const (.int .i64 0))) 3] fr st (.seq c12_24 k)) ∧
 evK gS fi12 c12_41 fr st k = condK gS fi12 (fr.op (.tmp 38)).bool? (.exit 1) .skip fr st k ∧
 (evK gS fi12 c12_39 fr st k = opsR gS fi12 [mv 37 6 4,
 op1 38 (.unOp .not 4 (.tmp 37)) 4] fr st (.seq c12_41 k)) ∧
 (evK gS fi12 c12_64 fr st k = opsR gS fi12 [op1 54 (.fieldAddr 39 (.tmp 9) 1) 0,
 ld 55 22 54 22,
 op1 56 (.fieldAddr 31 (.tmp 11) 0) 0,
 ld 57 3 56 3,
 cal 58 51 [(.tmp 55),(.tmp 57)] [22,3] 22,
 op1 59 (.fieldAddr 39 (.tmp 9) 1) 0,
 sto 22 59 58] fr st k) ∧
 evK gS fi12 c12_63 fr st k = condK gS fi12 (fr.op (.tmp 53)).bool? c12_64 .skip fr st k ∧
 (evK gS fi12 c12_61 fr st k = opsR gS fi12 [op1 49 (.fieldAddr 31 (.tmp 5) 3) 0,
 ld 50 29 49 29,
 op1 51 (.fieldAddr 31 (.tmp 11) 3) 0,
 ld 52 29 51 29,
 cal 53 49 [(.tmp 50),(.tmp 52)] [29,29] 4] fr st (.seq c12_63 k)) ∧
 (evK gS fi12 c12_59 fr st k = opsR gS fi12 [ixa 47 26 43 45 0,
 ld 48 31 47 31,
 op1 11 (.alloc 31) 0,
 sto 31 11 48] fr st (.seq c12_61 k)) ∧
 (evK gS fi12 c12_66 fr st k = opsR gS fi12 [op1 60 (.binOp .add 3 (.tmp 45) (.const (.int .i64 1)) 3) 3,
 mv 45 60 3] fr st k) ∧
 evK gS fi12 c12_57 fr st k = evK gS fi12 c12_59 fr st (.blk 5 (.seq c12_66 k)) ∧
 evK gS fi12 c12_53 fr st k = condK gS fi12 (fr.op (.tmp 46)).bool? .skip (.exit 4) fr st (.seq c12_57 k) ∧
 evK gS fi12 c12_51 fr st k = opsR gS fi12 [bop 46 .lss 3 45 44 3 0] fr st (.seq c12_53 k) ∧
 evK gS fi12 c12_49 fr st k = evK gS fi12 c12_50 fr st (.blk 4 k) ∧
 (evK gS fi12 c12_47 fr st k = opsR gS fi12 [mv 43 0 26,
 len1 44 43 26 3,
 op1 45 (.move (.const (.int .i64 0))) 3] fr st (.seq c12_49 k)) ∧
 evK gS fi12 c12_46 fr st k = evK gS fi12 c12_47 fr st (.seq c12_67 k) ∧
 (evK gS fi12 c12_44 fr st k = opsR gS fi12 [op1 39 (.fieldAddr 31 (.tmp 5) 3) 0,
 ld 40 29 39 29,
 cal 41 50 [(.tmp 40)] [29] 29,
 op1 42 (.build 39 #[(0,(.tmp 41))]) 39,
 op1 9 (.alloc 39) 0,
 sto 39 9 42] fr st (.seq c12_46 k)) ∧
 evK gS fi12 c12_21 fr st k = evK gS fi12 c12_22 fr st (.seq c12_38 k) ∧
 evK gS fi12 c12_19 fr st k = opsR gS fi12 [op1 6 (.assign (.const (.bool true))) 4] fr st (.seq c12_21 k) ∧
 (evK gS fi12 c12_17 fr st k = opsR gS fi12 [mv 16 14 3,
 ixa 17 26 12 14 0,
 ld 18 31 17 31,
 op1 5 (.alloc 31) 0,
 asn 4 16 3,
 sto 31 5 18] fr st (.seq c12_19 k)) ∧
 (evK gS fi12 c12_68 fr st k = opsR gS fi12 [op1 65 (.binOp .add 3 (.tmp 14) (.const (.int .i64 1)) 3) 3,
 mv 14 65 3] fr st k) ∧
 evK gS fi12 c12_15 fr st k = evK gS fi12 c12_17 fr st (.blk 1 (.seq c12_68 k)) ∧
 evK gS fi12 c12_11 fr st k = condK gS fi12 (fr.op (.tmp 15)).bool? .skip (.exit 0) fr st (.seq c12_15 k) ∧
 evK gS fi12 c12_9 fr st k = opsR gS fi12 [bop 15 .lss 3 14 13 3 0] fr st (.seq c12_11 k) ∧
 evK gS fi12 c12_7 fr st k = evK gS fi12 c12_8 fr st (.blk 0 k) ∧
 (evK gS fi12 c12_5 fr st k = opsR gS fi12 [mv 12 0 26,
 len1 13 12 26 3,
 op1 14 (.move (.const (.int .i64 0))) 3] fr st (.seq c12_7 k)) ∧
 (evK gS fi12 c12_69 fr st k = opsR gS fi12 [mv 66 3 32,
 asn 2 66 32] fr st (.seq .ret k)) ∧
 evK gS fi12 c12_4 fr st k = evK gS fi12 c12_5 fr st (.seq c12_69 k) ∧
 evK gS fi12 c12_2 fr st k = opsR gS fi12 [op1 3 (.assign (.const (.slice none 0 0))) 32] fr st (.seq c12_4 k) ∧
 evK gS fi12 c12_0 fr st k = opsR gS fi12 [op1 2 (.assign (.const (.slice none 0 0))) 32] fr st (.seq c12_2 k) := ⟨evK_r 9 (by kernel_rfl),evK_rs 8 rfl (by kernel_rfl),evK_r 10 (by kernel_rfl),rfl,rfl,evK_rs 7 rfl (by kernel_rfl),rfl,evK_rs 6 rfl (by kernel_rfl),rfl,evK_rs 11 rfl (by kernel_rfl),evK_r 17 (by kernel_rfl),rfl,evK_rs 16 rfl (by kernel_rfl),evK_rs 15 rfl (by kernel_rfl),evK_r 18 (by kernel_rfl),rfl,rfl,evK_rs 14 rfl (by kernel_rfl),rfl,evK_rs 13 rfl (by kernel_rfl),rfl,evK_rs 12 rfl (by kernel_rfl),rfl,evK_rs 5 rfl (by kernel_rfl),evK_rs 4 rfl (by kernel_rfl),evK_r 20 (by kernel_rfl),rfl,rfl,evK_rs 3 rfl (by kernel_rfl),rfl,evK_rs 2 rfl (by kernel_rfl),evK_rs 21 rfl (by kernel_rfl),rfl,evK_rs 1 rfl (by kernel_rfl),evK_rs 0 rfl (by kernel_rfl)⟩
theorem m12 : mini fi12.body = c12_0 := by kernel_rfl
theorem n12_25 (fr : Fr) (st : St) (k : Kt) : nextK gS fi12 (.loop c12_26 k) .normal fr st = evK gS fi12 c12_25 fr st k := rfl
theorem n12_50 (fr : Fr) (st : St) (k : Kt) : nextK gS fi12 (.loop c12_51 k) .normal fr st = evK gS fi12 c12_50 fr st k := rfl
theorem n12_8 (fr : Fr) (st : St) (k : Kt) : nextK gS fi12 (.loop c12_9 k) .normal fr st = evK gS fi12 c12_8 fr st k := rfl
set_option maxHeartbeats 8000000 in
theorem L12_25 (l : List Sub) (hl1 : ∀ x ∈ l,PSm x.filter) (hl2 : l.length ≤ 1000) (s : Sub) (hs : PSm s.filter) (i : Nat) (out : List Grp) (ko : Nat) (st : St) (R : Out × St) (hi : i ≤ l.length) (fin : Bool)
    (H : ∀ (e8 e9 e11 e21 e22 e23 e43 e44 e45 : E) (T : List (Nat × E)) (X : List (Nat × List V)),e8.Tame → e9.Tame → e11.Tame → e21.Tame → e22.Tame → e23.Tame → e43.Tame → e44.Tame → e45.Tame → lk X 5 = some s.cells → evK gS fi12 c12_38 { ps := [(0,.val (.slice (encSubs l))),(2,.own 0 []),(3,.own ko (encGrps out)),(4,.val (.int .i64 (i : Nat))),(5,.lp 5 0),(6,.val (.bool fin)),(8,e8),(9,e9),(11,e11),(12,.val (.slice (encSubs l))),(13,.val (.int .i64 l.length)),(14,.val (.int .i64 (i : Nat))),(21,e21),(22,e22),(23,e23),(43,e43),(44,e44),(45,e45)],ts := T,lc := X } st (.blk 1 (.seq c12_68 (.loop c12_9 (.blk 0 (.seq c12_69 .nil))))) = some R) :
    ∀ (m k : Nat) (b : Bool) (e8 e9 e11 e43 e44 e45 : E) (T : List (Nat × E)) (X : List (Nat × List V)) (h8 : e8.Tame) (h9 : e9.Tame) (h11 : e11.Tame) (h43 : e43.Tame) (h44 : e44.Tame) (h45 : e45.Tame) (hx5 : lk X 5 = some s.cells),k ≤ i → i - k = m → fin = ((l.take i).drop k).foldl (fun b t => b && !fsame s.filter t.filter) b →
    evK gS fi12 c12_25 { ps := [(0,.val (.slice (encSubs l))),(2,.own 0 []),(3,.own ko (encGrps out)),(4,.val (.int .i64 (i : Nat))),(5,.lp 5 0),(6,.val (.bool b)),(8,e8),(9,e9),(11,e11),(12,.val (.slice (encSubs l))),(13,.val (.int .i64 l.length)),(14,.val (.int .i64 (i : Nat))),(21,.val (.slice (encSubs (l.take i)))),(22,.val (.int .i64 (i : Nat))),(23,.val (.int .i64 (k : Nat))),(43,e43),(44,e44),(45,e45)],ts := T,lc := X } st (.blk 2 (.seq c12_38 (.blk 1 (.seq c12_68 (.loop c12_9 (.blk 0 (.seq c12_69 .nil))))))) = some R := by
  intro m
  have hm : fi12.marks = [1000000] := rfl
  have hl : fi12.locals = [5,8,9,11] := rfl
  have hr : fi12.results = [.tmp 2] := rfl
  have hso := hs.ok
  have hlt0 : (l.take i).length = i := by simp; omega
  induction m with
  | zero =>
    intro k b e8 e9 e11 e43 e44 e45 T X h8 h9 h11 h43 h44 h45 hx5 hk hm2 hf
    obtain rfl : k = i := by omega
    rw [List.drop_of_length_le (by omega),List.foldl_nil] at hf
    subst hf
    have HH := H e8 e9 e11 (.val (.slice (encSubs (l.take k)))) (.val (.int .i64 k)) (.val (.int .i64 k)) e43 e44 e45
    refine evK_loop c12_26 _ _ _ _ rfl ?_
    simp [-Int.natCast_add,h8,h9,h11,h43,h44,h45,-Int.not_le,-Int.not_lt,-Nat.not_le,-Nat.not_lt,ty3,ty4,ty22,ty26,ty29,ty31,ty32,ty39,hm,hl,hr,E12,e12_67,n12_25,n12_50,n12_8]
    exact HH _ _ h8 h9 h11 rfl rfl rfl h43 h44 h45 hx5
  | succ m ih =>
    intro k b e8 e9 e11 e43 e44 e45 T X h8 h9 h11 h43 h44 h45 hx5 hk hm2 hf
    obtain ⟨x,hx⟩ : ∃ x,(l.take i)[k]? = some x := ⟨(l.take i)[k]'(by omega),List.getElem?_eq_getElem (by omega)⟩
    have hd := drop_get hx
    have hlt : (k : Int) < (i : Int) := by omega
    obtain ⟨hlt2,hxe⟩ := List.getElem?_eq_some_iff.1 hx
    have hw : IntKind.wrap .i64 ((k : Int) + 1) = ((k + 1 : Nat) : Int) := by rw [wrap64 (by omega) (by omega)]; omega
    have hxo := (hl1 x (List.mem_of_mem_take (List.mem_of_getElem? hx))).ok
    rw [hd,List.foldl_cons] at hf
    have kk : ∀ (fr : Fr) (st : St),callStep gS (EvF gS) 49 [.slice (encPreds s.filter),.slice (encPreds x.filter)] fr st = some (.ok (.val (.bool (fsame s.filter x.filter))) fr st) := fun fr st => k49 _ _ hso hxo fr st
    have IH := fun e8 e9 e11 e43 e44 e45 T X h8 h9 h11 h43 h44 h45 hx5 => ih (k + 1) _ e8 e9 e11 e43 e44 e45 T X h8 h9 h11 h43 h44 h45 hx5 (by omega) (by omega) hf
    generalize fsame s.filter x.filter = q at *
    generalize l.take i = L at *
    subst hlt0
    refine evK_loop c12_26 _ _ _ _ rfl ?_
    simp only [Sub.cells] at hx5
    cases b with
    | false =>
      simp only [Bool.false_and] at IH
      simp [-Int.natCast_add,h8,h9,h11,h43,h44,h45,hx,hxe,hlt,hlt2,hw,hx5,-Int.not_le,-Int.not_lt,-Nat.not_le,-Nat.not_lt,ty3,ty4,ty22,ty26,ty29,ty31,ty32,ty39,hm,hl,hr,E12,e12_67,n12_25,n12_50,n12_8]
      refine IH _ _ _ _ _ _ _ _ ?_ ?_ ?_ ?_ ?_ ?_ ?_
      all_goals simp [h8,h9,h11,h43,h44,h45,hx5]
    | true =>
      simp only [Bool.true_and] at IH
      simp [-Int.natCast_add,h8,h9,h11,h43,h44,h45,hx,hxe,hlt,hlt2,hw,hx5,kk,-Int.not_le,-Int.not_lt,-Nat.not_le,-Nat.not_lt,ty3,ty4,ty22,ty26,ty29,ty31,ty32,ty39,hm,hl,hr,E12,e12_67,n12_25,n12_50,n12_8]
      refine IH _ _ _ _ _ _ _ _ ?_ ?_ ?_ ?_ ?_ ?_ ?_
      all_goals simp [h8,h9,h11,h43,h44,h45,hx5]
set_option maxHeartbeats 8000000 in
theorem L12_50 (l : List Sub) (hl1 : ∀ x ∈ l,PSm x.filter) (hl2 : l.length ≤ 1000) (s : Sub) (hs : PSm s.filter) (i : Nat) (out : List Grp) (ko : Nat) (st : St) (R : Out × St) (fin : List Int)
    (H : ∀ (CL : V) (e8 e11 e21 e22 e23 : E) (T : List (Nat × E)) (X : List (Nat × List V)),CLo CL fin → e8.Tame → e11.Tame → e21.Tame → e22.Tame → e23.Tame → lk X 9 = some [.slice (encPreds s.filter),CL] → evK gS fi12 c12_67 { ps := [(0,.val (.slice (encSubs l))),(2,.own 0 []),(3,.own ko (encGrps out)),(4,.val (.int .i64 (i : Nat))),(5,.lp 5 0),(6,.val (.bool true)),(8,e8),(9,.lp 9 0),(11,e11),(12,.val (.slice (encSubs l))),(13,.val (.int .i64 l.length)),(14,.val (.int .i64 (i : Nat))),(21,e21),(22,e22),(23,e23),(43,.val (.slice (encSubs l))),(44,.val (.int .i64 l.length)),(45,.val (.int .i64 l.length))],ts := T,lc := X } st (.blk 1 (.seq c12_68 (.loop c12_9 (.blk 0 (.seq c12_69 .nil))))) = some R) :
    ∀ (m k : Nat) (acc : List Int) (CL : V) (e8 e11 e21 e22 e23 : E) (T : List (Nat × E)) (X : List (Nat × List V)) (hc : CLo CL acc) (h8 : e8.Tame) (h11 : e11.Tame) (h21 : e21.Tame) (h22 : e22.Tame) (h23 : e23.Tame) (hx5 : lk X 5 = some s.cells) (hx9 : lk X 9 = some [.slice (encPreds s.filter),CL]),k ≤ l.length → l.length - k = m → acc.length ≤ k → fin = (l.drop k).foldl (cliStep s) acc →
    evK gS fi12 c12_50 { ps := [(0,.val (.slice (encSubs l))),(2,.own 0 []),(3,.own ko (encGrps out)),(4,.val (.int .i64 (i : Nat))),(5,.lp 5 0),(6,.val (.bool true)),(8,e8),(9,.lp 9 0),(11,e11),(12,.val (.slice (encSubs l))),(13,.val (.int .i64 l.length)),(14,.val (.int .i64 (i : Nat))),(21,e21),(22,e22),(23,e23),(43,.val (.slice (encSubs l))),(44,.val (.int .i64 l.length)),(45,.val (.int .i64 (k : Nat)))],ts := T,lc := X } st (.blk 4 (.seq c12_67 (.blk 1 (.seq c12_68 (.loop c12_9 (.blk 0 (.seq c12_69 .nil))))))) = some R := by
  intro m
  have hm : fi12.marks = [1000000] := rfl
  have hl : fi12.locals = [5,8,9,11] := rfl
  have hr : fi12.results = [.tmp 2] := rfl
  have hso := hs.ok
  induction m with
  | zero =>
    intro k acc CL e8 e11 e21 e22 e23 T X hc h8 h11 h21 h22 h23 hx5 hx9 hk hm2 ha hf
    obtain rfl : k = l.length := by omega
    rw [List.drop_length,List.foldl_nil] at hf
    subst hf
    refine evK_loop c12_51 _ _ _ _ rfl ?_
    simp [-Int.natCast_add,h8,h11,h21,h22,h23,-Int.not_le,-Int.not_lt,-Nat.not_le,-Nat.not_lt,ty3,ty4,ty22,ty26,ty29,ty31,ty32,ty39,hm,hl,hr,E12,e12_38,n12_25,n12_50,n12_8]
    exact H CL _ _ _ _ _ _ _ hc h8 h11 h21 h22 h23 hx9
  | succ m ih =>
    intro k acc CL e8 e11 e21 e22 e23 T X hc h8 h11 h21 h22 h23 hx5 hx9 hk hm2 ha hf
    obtain ⟨x,hx⟩ : ∃ x,l[k]? = some x := ⟨l[k]'(by omega),List.getElem?_eq_getElem (by omega)⟩
    have hd := drop_get hx
    have hlt : (k : Int) < (l.length : Int) := by omega
    obtain ⟨hlt2,hxe⟩ := List.getElem?_eq_some_iff.1 hx
    have hw : IntKind.wrap .i64 ((k : Int) + 1) = ((k + 1 : Nat) : Int) := by rw [wrap64 (by omega) (by omega)]; omega
    have hxo := (hl1 x (List.mem_of_getElem? hx)).ok
    rw [hd,List.foldl_cons] at hf
    have kk : ∀ (fr : Fr) (st : St),callStep gS (EvF gS) 49 [.slice (encPreds s.filter),.slice (encPreds x.filter)] fr st = some (.ok (.val (.bool (fsame s.filter x.filter))) fr st) := fun fr st => k49 _ _ hso hxo fr st
    have hll := layI_len acc x.client
    simp only [Sub.cells] at hx5
    refine evK_loop c12_51 _ _ _ _ rfl ?_
    cases hq : fsame s.filter x.filter with
    | false =>
      rw [hq] at kk
      have hst : cliStep s acc x = acc := by unfold cliStep; rw [hq]; rfl
      rw [hst] at hf
      have IH := fun e8 e11 e21 e22 e23 T X h8 h11 h21 h22 h23 hx5 hx9 => ih (k + 1) acc CL e8 e11 e21 e22 e23 T X hc h8 h11 h21 h22 h23 hx5 hx9 (by omega) (by omega) (by omega) hf
      simp [-Int.natCast_add,h8,h11,h21,h22,h23,hx,hxe,hlt,hlt2,hw,hx5,hx9,kk,-Int.not_le,-Int.not_lt,-Nat.not_le,-Nat.not_lt,ty3,ty4,ty22,ty26,ty29,ty31,ty32,ty39,hm,hl,hr,E12,e12_38,n12_25,n12_50,n12_8]
      refine IH _ _ _ _ _ _ _ ?_ ?_ ?_ ?_ ?_ ?_ ?_
      all_goals simp [h8,h11,h21,h22,h23,hx5,hx9]
    | true =>
      rw [hq] at kk
      have hst : cliStep s acc x = layI acc x.client := by unfold cliStep; rw [hq]; rfl
      rw [hst] at hf
      have kl := fun fr st => k51 acc (by omega) x.client fr st
      have IH := fun e8 e11 e21 e22 e23 T X h8 h11 h21 h22 h23 hx5 hx9 => ih (k + 1) (layI acc x.client) (.slice (intVs (layI acc x.client))) e8 e11 e21 e22 e23 T X (.inr rfl) h8 h11 h21 h22 h23 hx5 hx9 (by omega) (by omega) (by omega) hf
      have hls : ∀ (X : List (Nat × List V)) (a b : List V),lk X 9 = some a → lk (lset X 9 b) 9 = some b := fun X a b h => lk_lset_self X 9 a b h
      rcases hc with ⟨rfl,rfl⟩ | rfl
      · rw [show intVs [] = [] from rfl] at kl
        simp [-Int.natCast_add,h8,h11,h21,h22,h23,hx,hxe,hlt,hlt2,hw,hx5,hx9,kk,kl,-Int.not_le,-Int.not_lt,-Nat.not_le,-Nat.not_lt,ty3,ty4,ty22,ty26,ty29,ty31,ty32,ty39,hm,hl,hr,E12,e12_38,n12_25,n12_50,n12_8]
        refine IH _ _ _ _ _ _ _ ?_ ?_ ?_ ?_ ?_ ?_ ?_
        all_goals simp [h8,h11,h21,h22,h23,hx5,hx9,lk_lset_self _ _ _ _ hx9]
        all_goals exact lk_lset_self _ _ [.slice (encPreds s.filter),.osl 0 []] _ (by simp [hx9])
      · simp [-Int.natCast_add,h8,h11,h21,h22,h23,hx,hxe,hlt,hlt2,hw,hx5,hx9,kk,kl,-Int.not_le,-Int.not_lt,-Nat.not_le,-Nat.not_lt,ty3,ty4,ty22,ty26,ty29,ty31,ty32,ty39,hm,hl,hr,E12,e12_38,n12_25,n12_50,n12_8]
        refine IH _ _ _ _ _ _ _ ?_ ?_ ?_ ?_ ?_ ?_ ?_
        all_goals simp [h8,h11,h21,h22,h23,hx5,hx9,lk_lset_self _ _ _ _ hx9]
        all_goals exact lk_lset_self _ _ [.slice (encPreds s.filter),.slice (intVs acc)] _ (by simp [hx9])
set_option maxHeartbeats 8000000 in
theorem L12 (l : List Sub) (hl1 : ∀ x ∈ l,PSm x.filter) (hl2 : l.length ≤ 1000) (st : St) :
    ∀ (m i : Nat) (out : List Grp) (e4 e5 e6 e8 e9 e11 e21 e22 e23 e43 e44 e45 : E) (T : List (Nat × E)) (X : List (Nat × List V)) (h4 : e4.Tame) (h5 : e5.Tame) (h6 : e6.Tame) (h8 : e8.Tame) (h9 : e9.Tame) (h11 : e11.Tame) (h21 : e21.Tame) (h22 : e22.Tame) (h23 : e23.Tame) (h43 : e43.Tame) (h44 : e44.Tame) (h45 : e45.Tame),i ≤ l.length → l.length - i = m → out.length ≤ i →
    evK gS fi12 c12_8 { ps := [(0,.val (.slice (encSubs l))),(2,.own 0 []),(3,.own (kof 2 out) (encGrps out)),(4,e4),(5,e5),(6,e6),(8,e8),(9,e9),(11,e11),(12,.val (.slice (encSubs l))),(13,.val (.int .i64 l.length)),(14,.val (.int .i64 (i : Nat))),(21,e21),(22,e22),(23,e23),(43,e43),(44,e44),(45,e45)],ts := T,lc := X } st (.blk 0 (.seq c12_69 .nil)) = some (.ret (.slice (encGrps (gofG l i (l.drop i) out))) none,st) := by
  intro m
  have hm : fi12.marks = [1000000] := rfl
  have hl : fi12.locals = [5,8,9,11] := rfl
  have hr : fi12.results = [.tmp 2] := rfl
  induction m with
  | zero =>
    intro i out e4 e5 e6 e8 e9 e11 e21 e22 e23 e43 e44 e45 T X h4 h5 h6 h8 h9 h11 h21 h22 h23 h43 h44 h45 hi hm2 ho
    obtain rfl : i = l.length := by omega
    rw [List.drop_length]
    have hz := frz_slice (xs := encGrps out) (flats_grps out) st
    show _ = some (Out.ret (V.slice (encGrps out)) none,st)
    refine evK_loop c12_9 _ _ _ _ rfl ?_
    rcases kof_or 1 out with ⟨hk,rfl⟩ | hk
    · have hk2 : kof 2 ([] : List Grp) = 0 := rfl
      have en : encGrps [] = [] := rfl
      rw [en] at hz
      rw [hk2,en]
      simp [h4,h5,h6,h8,h9,h11,h21,h22,h23,h43,h44,h45,hz,-Int.not_le,-Int.not_lt,-Nat.not_le,-Nat.not_lt,ty3,ty4,ty22,ty26,ty29,ty31,ty32,ty39,hm,hl,hr,E12,e12_38,n12_25,n12_50,n12_8]
    · have hk2 : kof 2 out = 2 := by
        unfold kof at hk ⊢; split at hk <;> simp_all
      rw [hk2]
      simp [h4,h5,h6,h8,h9,h11,h21,h22,h23,h43,h44,h45,hz,-Int.not_le,-Int.not_lt,-Nat.not_le,-Nat.not_lt,ty3,ty4,ty22,ty26,ty29,ty31,ty32,ty39,hm,hl,hr,E12,e12_38,n12_25,n12_50,n12_8]
  | succ m ih =>
    intro i out e4 e5 e6 e8 e9 e11 e21 e22 e23 e43 e44 e45 T X h4 h5 h6 h8 h9 h11 h21 h22 h23 h43 h44 h45 hi hm2 ho
    obtain ⟨s,hx⟩ : ∃ s,l[i]? = some s := ⟨l[i]'(by omega),List.getElem?_eq_getElem (by omega)⟩
    have hd := drop_get hx
    have hlt : (i : Int) < (l.length : Int) := by omega
    obtain ⟨hlt2,hxe⟩ := List.getElem?_eq_some_iff.1 hx
    have hw : IntKind.wrap .i64 ((i : Int) + 1) = ((i + 1 : Nat) : Int) := by rw [wrap64 (by omega) (by omega)]; omega
    have hs := hl1 s (List.mem_of_getElem? hx)
    have hso := hs.ok
    rw [hd]
    have hgo : gofG l i (s :: l.drop (i + 1)) out = gofG l (i + 1) (l.drop (i + 1)) (if fstOf l i s then out ++ [⟨s.filter,cliOf l s⟩] else out) := rfl
    rw [hgo]
    have hol : (if fstOf l i s then out ++ [⟨s.filter,cliOf l s⟩] else out).length ≤ i + 1 := by
      split
      · simp; omega
      · omega
    have IH := fun e4 e5 e6 e8 e9 e11 e21 e22 e23 e43 e44 e45 T X h4 h5 h6 h8 h9 h11 h21 h22 h23 h43 h44 h45 => ih (i + 1) (if fstOf l i s then out ++ [⟨s.filter,cliOf l s⟩] else out) e4 e5 e6 e8 e9 e11 e21 e22 e23 e43 e44 e45 T X h4 h5 h6 h8 h9 h11 h21 h22 h23 h43 h44 h45 (by omega) (by omega) hol
    generalize hR : (Out.ret (V.slice (encGrps (gofG l (i + 1) (l.drop (i + 1)) (if fstOf l i s then out ++ [⟨s.filter,cliOf l s⟩] else out)))) none,st) = R at IH ⊢
    clear hR
    have HA : ∀ (e8 e9 e11 e21 e22 e23 e43 e44 e45 : E) (T : List (Nat × E)) (X : List (Nat × List V)),e8.Tame → e9.Tame → e11.Tame → e21.Tame → e22.Tame → e23.Tame → e43.Tame → e44.Tame → e45.Tame → lk X 5 = some s.cells → evK gS fi12 c12_38 { ps := [(0,.val (.slice (encSubs l))),(2,.own 0 []),(3,.own (kof 2 out) (encGrps out)),(4,.val (.int .i64 (i : Nat))),(5,.lp 5 0),(6,.val (.bool (fstOf l i s))),(8,e8),(9,e9),(11,e11),(12,.val (.slice (encSubs l))),(13,.val (.int .i64 l.length)),(14,.val (.int .i64 (i : Nat))),(21,e21),(22,e22),(23,e23),(43,e43),(44,e44),(45,e45)],ts := T,lc := X } st (.blk 1 (.seq c12_68 (.loop c12_9 (.blk 0 (.seq c12_69 .nil))))) = some R := by
      intro e8 e9 e11 e21 e22 e23 e43 e44 e45 T X h8 h9 h11 h21 h22 h23 h43 h44 h45 hx5
      cases hq : fstOf l i s with
      | false =>
        rw [hq] at IH
        simp only [Bool.false_eq_true,if_false] at IH
        simp [-Int.natCast_add,h8,h9,h11,h21,h22,h23,h43,h44,h45,hw,-Int.not_le,-Int.not_lt,-Nat.not_le,-Nat.not_lt,ty3,ty4,ty22,ty26,ty29,ty31,ty32,ty39,hm,hl,hr,E12,e12_38,n12_25,n12_50,n12_8]
        refine IH _ _ _ _ _ _ _ _ _ _ _ _ _ _ ?_ ?_ ?_ ?_ ?_ ?_ ?_ ?_ ?_ ?_ ?_ ?_
        all_goals simp [h8,h9,h11,h21,h22,h23,h43,h44,h45]
      | true =>
        rw [hq] at IH
        simp only [if_true] at IH
        have kc := fun fr st => k50 s.filter hs fr st
        have hs1 := sizes_grps out
        have hs2 := grps_snoc out ⟨s.filter,cliOf l s⟩
        have b1 : (out.length + 1) * 48 ≤ 140737488355328 := by omega
        have b2 : out.length + 1 ≤ 140737488355328 := by omega
        rw [kof_snoc] at IH
        have HB : ∀ (CL : V) (e8 e11 e21 e22 e23 : E) (T : List (Nat × E)) (X : List (Nat × List V)),CLo CL (cliOf l s) → e8.Tame → e11.Tame → e21.Tame → e22.Tame → e23.Tame → lk X 9 = some [.slice (encPreds s.filter),CL] → evK gS fi12 c12_67 { ps := [(0,.val (.slice (encSubs l))),(2,.own 0 []),(3,.own (kof 2 out) (encGrps out)),(4,.val (.int .i64 (i : Nat))),(5,.lp 5 0),(6,.val (.bool true)),(8,e8),(9,.lp 9 0),(11,e11),(12,.val (.slice (encSubs l))),(13,.val (.int .i64 l.length)),(14,.val (.int .i64 (i : Nat))),(21,e21),(22,e22),(23,e23),(43,.val (.slice (encSubs l))),(44,.val (.int .i64 l.length)),(45,.val (.int .i64 l.length))],ts := T,lc := X } st (.blk 1 (.seq c12_68 (.loop c12_9 (.blk 0 (.seq c12_69 .nil))))) = some R := by
          intro CL e8 e11 e21 e22 e23 T X hc h8 h11 h21 h22 h23 hx9
          generalize cliOf l s = cl at *
          have en : encGrps [] = [] := rfl
          have en1 : encGrps ([] ++ [⟨s.filter,cl⟩]) = [.agg [.slice (encPreds s.filter),.slice (intVs cl)]] := rfl
          rcases hc with ⟨rfl,rfl⟩ | rfl
          · rw [show intVs [] = [] from rfl] at hs2 en1
            rcases kof_or 2 out with ⟨hk,rfl⟩ | hk
            · rw [hk,en]
              rw [en1] at IH
              simp [-Int.natCast_add,h8,h11,h21,h22,h23,hx9,hw,-Int.not_le,-Int.not_lt,-Nat.not_le,-Nat.not_lt,ty3,ty4,ty22,ty26,ty29,ty31,ty32,ty39,hm,hl,hr,E12,e12_67,e12_38,n12_25,n12_50,n12_8]
              refine IH _ _ _ _ _ _ _ _ _ _ _ _ _ _ ?_ ?_ ?_ ?_ ?_ ?_ ?_ ?_ ?_ ?_ ?_ ?_
              all_goals simp [h8,h11,h21,h22,h23]
            · rw [hk]
              simp [-Int.natCast_add,-List.append_assoc,h8,h11,h21,h22,h23,hx9,hw,hs1,hs2,b1,b2,-Int.not_le,-Int.not_lt,-Nat.not_le,-Nat.not_lt,ty3,ty4,ty22,ty26,ty29,ty31,ty32,ty39,hm,hl,hr,E12,e12_67,e12_38,n12_25,n12_50,n12_8]
              refine IH _ _ _ _ _ _ _ _ _ _ _ _ _ _ ?_ ?_ ?_ ?_ ?_ ?_ ?_ ?_ ?_ ?_ ?_ ?_
              all_goals simp [h8,h11,h21,h22,h23]
          · rcases kof_or 2 out with ⟨hk,rfl⟩ | hk
            · rw [hk,en]
              rw [en1] at IH
              simp [-Int.natCast_add,h8,h11,h21,h22,h23,hx9,hw,-Int.not_le,-Int.not_lt,-Nat.not_le,-Nat.not_lt,ty3,ty4,ty22,ty26,ty29,ty31,ty32,ty39,hm,hl,hr,E12,e12_67,e12_38,n12_25,n12_50,n12_8]
              refine IH _ _ _ _ _ _ _ _ _ _ _ _ _ _ ?_ ?_ ?_ ?_ ?_ ?_ ?_ ?_ ?_ ?_ ?_ ?_
              all_goals simp [h8,h11,h21,h22,h23]
            · rw [hk]
              simp [-Int.natCast_add,-List.append_assoc,h8,h11,h21,h22,h23,hx9,hw,hs1,hs2,b1,b2,-Int.not_le,-Int.not_lt,-Nat.not_le,-Nat.not_lt,ty3,ty4,ty22,ty26,ty29,ty31,ty32,ty39,hm,hl,hr,E12,e12_67,e12_38,n12_25,n12_50,n12_8]
              refine IH _ _ _ _ _ _ _ _ _ _ _ _ _ _ ?_ ?_ ?_ ?_ ?_ ?_ ?_ ?_ ?_ ?_ ?_ ?_
              all_goals simp [h8,h11,h21,h22,h23]
        have LB := fun CL e8 e11 e21 e22 e23 T X hc h8 h11 h21 h22 h23 hx5 hx9 => L12_50 l hl1 hl2 s hs i out (kof 2 out) st R (cliOf l s) HB l.length 0 [] CL e8 e11 e21 e22 e23 T X hc h8 h11 h21 h22 h23 hx5 hx9 (Nat.zero_le _) rfl (Nat.le_refl _) rfl
        rw [show ((0 : Nat) : Int) = 0 from rfl] at LB
        simp only [Sub.cells] at hx5
        simp [-Int.natCast_add,h8,h9,h11,h21,h22,h23,h43,h44,h45,hx5,kc,-Int.not_le,-Int.not_lt,-Nat.not_le,-Nat.not_lt,ty3,ty4,ty22,ty26,ty29,ty31,ty32,ty39,hm,hl,hr,E12,e12_38,n12_25,n12_50,n12_8]
        refine LB (.osl 0 []) _ _ _ _ _ _ _ (.inl ⟨rfl,rfl⟩) ?_ ?_ ?_ ?_ ?_ ?_ ?_
        all_goals simp [h8,h9,h11,h21,h22,h23,hx5]
    have LA := fun e8 e9 e11 e43 e44 e45 T X h8 h9 h11 h43 h44 h45 hx5 => L12_25 l hl1 hl2 s hs i out (kof 2 out) st R hi (fstOf l i s) HA i 0 true e8 e9 e11 e43 e44 e45 T X h8 h9 h11 h43 h44 h45 hx5 (Nat.zero_le _) rfl (by rw [List.drop_zero]; rfl)
    rw [show ((0 : Nat) : Int) = 0 from rfl] at LA
    have htk : (encSubs l).take i = encSubs (l.take i) := by simp [encSubs]
    have hsz := sizes_subs l
    have hi1 : (i : Int) ≤ (l.length : Int) := by omega
    have hi0 : (0 : Int) ≤ (i : Int) := by omega
    have hmin : min i l.length = i := by omega
    refine evK_loop c12_9 _ _ _ _ rfl ?_
    simp [-Int.natCast_add,h4,h5,h6,h8,h9,h11,h21,h22,h23,h43,h44,h45,hx,hxe,hlt,hlt2,htk,hsz,hi0,hi1,hmin,-Int.not_le,-Int.not_lt,-Nat.not_le,-Nat.not_lt,ty3,ty4,ty22,ty26,ty29,ty31,ty32,ty39,hm,hl,hr,E12,e12_38,n12_25,n12_50,n12_8]
    refine LA _ _ _ _ _ _ _ _ ?_ ?_ ?_ ?_ ?_ ?_ ?_
    all_goals simp [h8,h9,h11,h43,h44,h45]
set_option maxHeartbeats 8000000 in
theorem c12 (l : List Sub) (hl1 : ∀ x ∈ l,PSm x.filter) (hl2 : l.length ≤ 1000) (st : St) : EvF gS 12 [.slice (encSubs l)] st = some (.ret (.slice (encGrps (gof l))) none,st) := by
  refine EvF_start fi54_eq (fun x h => by cases h) m12 ?_
  rw [st12]
  have hm : fi12.marks = [1000000] := rfl
  have hl : fi12.locals = [5,8,9,11] := rfl
  have hr : fi12.results = [.tmp 2] := rfl
  have L0 := fun e4 e5 e6 e8 e9 e11 e21 e22 e23 e43 e44 e45 T X h4 h5 h6 h8 h9 h11 h21 h22 h23 h43 h44 h45 => L12 l hl1 hl2 st l.length 0 [] e4 e5 e6 e8 e9 e11 e21 e22 e23 e43 e44 e45 T X h4 h5 h6 h8 h9 h11 h21 h22 h23 h43 h44 h45 (Nat.zero_le _) rfl (Nat.le_refl _)
  simp only [show ((0 : Nat) : Int) = 0 from rfl,List.drop_zero,show kof 2 ([] : List Grp) = 0 from rfl,show encGrps [] = [] from rfl] at L0
  show _ = some (Out.ret (V.slice (encGrps (gofG l 0 l []))) none,st)
  simp [L0,-Int.not_le,-Int.not_lt,-Nat.not_le,-Nat.not_lt,ty3,ty4,ty22,ty26,ty29,ty31,ty32,ty39,hm,hl,hr,E12,e12_67,e12_38,n12_25,n12_50,n12_8]
theorem k12 (l : List Sub) (hl1 : ∀ x ∈ l,PSm x.filter) (hl2 : l.length ≤ 1000) (fr : Fr) (st : St) : callStep gS (EvF gS) 12 [.slice (encSubs l)] fr st = some (.ok (.val (.slice (encGrps (gof l)))) (fr.map E.noMem) st) := by
  unfold callStep
  simp only [show gS.ext 12 = none from rfl,fi54_eq,show fi12.pure = false from rfl,Bool.false_eq_true,if_false,c12 l hl1 hl2 st,retE]
end
end Go.Proofs.Ytdoobejjedpcgaa
namespace Go.Ab
open Go
theorem vsame_symm {a b : Val} (h : vsame a b = true) : vsame b a = true := by
  simp only [vsame,Bool.and_eq_true,decide_eq_true_eq] at h ⊢
  obtain ⟨⟨⟨⟨h1,h2⟩,h3⟩,h4⟩,h5⟩ := h
  exact ⟨⟨⟨⟨h1.symm,h2.symm⟩,h3.symm⟩,h4.symm⟩,h5.symm⟩
theorem vsame_trans {a b c : Val} (h : vsame a b = true) (k : vsame b c = true) : vsame a c = true := by
  simp only [vsame,Bool.and_eq_true,decide_eq_true_eq] at h k ⊢
  obtain ⟨⟨⟨⟨h1,h2⟩,h3⟩,h4⟩,h5⟩ := h
  obtain ⟨⟨⟨⟨k1,k2⟩,k3⟩,k4⟩,k5⟩ := k
  exact ⟨⟨⟨⟨h1.trans k1,h2.trans k2⟩,h3.trans k3⟩,h4.trans k4⟩,h5.trans k5⟩
theorem sames_symm : ∀ {a b : List Val},sames a b = true → sames b a = true
  | [],[],_ => rfl
  | x :: r,y :: s,h => by
    simp only [sames,Bool.and_eq_true] at h ⊢
    exact ⟨vsame_symm h.1,sames_symm h.2⟩
  | [],_ :: _,h => by simp [sames] at h
  | _ :: _,[],h => by simp [sames] at h
theorem sames_trans : ∀ {a b c : List Val},sames a b = true → sames b c = true → sames a c = true
  | [],[],[],_,_ => rfl
  | x :: r,y :: s,z :: t,h,k => by
    simp only [sames,Bool.and_eq_true] at h k ⊢
    exact ⟨vsame_trans h.1 k.1,sames_trans h.2 k.2⟩
  | [],_ :: _,_,h,_ => by simp [sames] at h
  | _ :: _,[],_,h,_ => by simp [sames] at h
  | [],[],_ :: _,_,k => by simp [sames] at k
  | _ :: _,_ :: _,[],_,k => by simp [sames] at k
theorem psame_symm {a b : Pred} (h : psame a b = true) : psame b a = true := by
  simp only [psame,Bool.and_eq_true,decide_eq_true_eq] at h ⊢
  obtain ⟨⟨⟨⟨h1,h2⟩,h3⟩,h4⟩,h5⟩ := h
  exact ⟨⟨⟨⟨h1.symm,h2.symm⟩,vsame_symm h3⟩,vsame_symm h4⟩,sames_symm h5⟩
theorem psame_trans {a b c : Pred} (h : psame a b = true) (k : psame b c = true) : psame a c = true := by
  simp only [psame,Bool.and_eq_true,decide_eq_true_eq] at h k ⊢
  obtain ⟨⟨⟨⟨h1,h2⟩,h3⟩,h4⟩,h5⟩ := h
  obtain ⟨⟨⟨⟨k1,k2⟩,k3⟩,k4⟩,k5⟩ := k
  exact ⟨⟨⟨⟨h1.trans k1,h2.trans k2⟩,vsame_trans h3 k3⟩,vsame_trans h4 k4⟩,sames_trans h5 k5⟩
theorem psame_rfl (p : Pred) : psame p p = true := by simp [psame,vsame_refl,sames_refl]
theorem fsames_rfl : ∀ l : List Pred,fsames l l = true
  | [] => rfl
  | a :: r => by simp [fsames,psame_rfl,fsames_rfl r]
theorem fsames_symm : ∀ {a b : List Pred},fsames a b = true → fsames b a = true
  | [],[],_ => rfl
  | x :: r,y :: s,h => by
    simp only [fsames,Bool.and_eq_true] at h ⊢
    exact ⟨psame_symm h.1,fsames_symm h.2⟩
  | [],_ :: _,h => by simp [fsames] at h
  | _ :: _,[],h => by simp [fsames] at h
theorem fsames_trans : ∀ {a b c : List Pred},fsames a b = true → fsames b c = true → fsames a c = true
  | [],[],[],_,_ => rfl
  | x :: r,y :: s,z :: t,h,k => by
    simp only [fsames,Bool.and_eq_true] at h k ⊢
    exact ⟨psame_trans h.1 k.1,fsames_trans h.2 k.2⟩
  | [],_ :: _,_,h,_ => by simp [fsames] at h
  | _ :: _,[],_,h,_ => by simp [fsames] at h
  | [],[],_ :: _,_,k => by simp [fsames] at k
  | _ :: _,_ :: _,[],_,k => by simp [fsames] at k
theorem fsame_iff {a b : List Pred} : fsame a b = true ↔ fsames a b = true := by
  unfold fsame
  rw [Bool.and_eq_true]
  exact ⟨fun h => h.2,fun h => ⟨by simpa using fsames_len h,h⟩⟩
theorem fsame_rfl (f : List Pred) : fsame f f = true := fsame_iff.2 (fsames_rfl f)
theorem fsame_symm {a b : List Pred} (h : fsame a b = true) : fsame b a = true := fsame_iff.2 (fsames_symm (fsame_iff.1 h))
theorem fsame_trans {a b c : List Pred} (h : fsame a b = true) (k : fsame b c = true) : fsame a c = true := fsame_iff.2 (fsames_trans (fsame_iff.1 h) (fsame_iff.1 k))
theorem fold_and {α : Type} (P : α → Bool) : ∀ (l : List α) (b : Bool),l.foldl (fun b t => b && !P t) b = (b && l.all fun t => !P t)
  | [],b => by simp
  | x :: r,b => by rw [List.foldl_cons,fold_and P r,List.all_cons,Bool.and_assoc]
theorem fstOf_iff {l : List Sub} {i : Nat} {s : Sub} : fstOf l i s = true ↔ ∀ k t,k < i → l[k]? = some t → fsame s.filter t.filter = false := by
  unfold fstOf
  rw [fold_and,Bool.true_and,List.all_eq_true]
  constructor
  · intro h k t hk ht
    have := h t (by
      refine List.mem_of_getElem? (i := k) ?_
      rw [List.getElem?_take,if_pos hk]; exact ht)
    simpa using this
  · intro h t ht
    obtain ⟨k,hk⟩ := List.mem_iff_getElem?.1 ht
    rw [List.getElem?_take] at hk
    split at hk
    · rename_i hlt
      simp [h k t hlt hk]
    · cases hk
theorem gofG_spec (l : List Sub) : ∀ (r : List Sub) (i : Nat) (out : List Grp),l.drop i = r → ∀ x,x ∈ gofG l i r out ↔ x ∈ out ∨ ∃ k s,i ≤ k ∧ l[k]? = some s ∧ fstOf l k s = true ∧ x = ⟨s.filter,cliOf l s⟩
  | [],i,out,hd,x => by
    unfold gofG
    constructor
    · exact .inl
    · rintro (h | ⟨k,s,h1,h2,_⟩)
      · exact h
      · have := (List.getElem?_eq_some_iff.1 h2).1
        have : l.length ≤ i := by simpa using hd
        omega
  | s :: r,i,out,hd,x => by
    have hi : l[i]? = some s := by
      have := congrArg (fun q => q[0]?) hd
      simpa using this
    have hd' : l.drop (i + 1) = r := by
      have := congrArg List.tail hd
      simpa using this
    unfold gofG
    rw [gofG_spec l r (i + 1) _ hd' x]
    constructor
    · rintro (h | ⟨k,t,h1,h2,h3⟩)
      · split at h
        · rename_i hf
          rcases List.mem_append.1 h with h | h
          · exact .inl h
          · simp at h
            exact .inr ⟨i,s,Nat.le_refl _,hi,hf,h⟩
        · exact .inl h
      · exact .inr ⟨k,t,by omega,h2,h3⟩
    · rintro (h | ⟨k,t,h1,h2,h3,h4⟩)
      · left; split
        · exact List.mem_append_left _ h
        · exact h
      · by_cases hk : k = i
        · subst hk
          rw [hi] at h2; cases h2
          left; rw [if_pos h3]; simp [h4]
        · exact .inr ⟨k,t,by omega,h2,h3,h4⟩
theorem gof_mem {l : List Sub} {x : Grp} : x ∈ gof l ↔ ∃ k s,l[k]? = some s ∧ fstOf l k s = true ∧ x = ⟨s.filter,cliOf l s⟩ := by
  unfold gof
  rw [gofG_spec l l 0 [] rfl x]
  constructor
  · rintro (h | ⟨k,s,_,h⟩)
    · simp at h
    · exact ⟨k,s,h⟩
  · rintro ⟨k,s,h⟩; exact .inr ⟨k,s,Nat.zero_le _,h⟩
theorem gofG_len (l : List Sub) : ∀ (r : List Sub) (i : Nat) (out : List Grp),(gofG l i r out).length ≤ out.length + r.length
  | [],_,_ => by simp [gofG]
  | s :: r,i,out => by
    unfold gofG
    have := gofG_len l r (i + 1) (if fstOf l i s then out ++ [⟨s.filter,cliOf l s⟩] else out)
    split at this
    · rename_i h; rw [if_pos h]; simp at this ⊢; omega
    · rename_i h; rw [if_neg h]; simp at this ⊢; omega
theorem gof_len (l : List Sub) : (gof l).length ≤ l.length := by
  have := gofG_len l l 0 []
  unfold gof
  simpa using this
theorem cli_mem (s : Sub) : ∀ (l : List Sub) (acc : List Int) (c : Int),c ∈ l.foldl (cliStep s) acc ↔ c ∈ acc ∨ ∃ t ∈ l,fsame s.filter t.filter = true ∧ t.client = c
  | [],acc,c => by simp
  | t :: r,acc,c => by
    rw [List.foldl_cons,cli_mem s r]
    unfold cliStep
    split
    · rename_i h
      rw [layI_mem]
      constructor
      · rintro ((rfl | h1) | ⟨u,hu,h1⟩)
        · exact .inr ⟨t,by simp,h,rfl⟩
        · exact .inl h1
        · exact .inr ⟨u,by simp [hu],h1⟩
      · rintro (h1 | ⟨u,hu,h1,h2⟩)
        · exact .inl (.inr h1)
        · rcases List.mem_cons.1 hu with rfl | hu
          · exact .inl (.inl h2.symm)
          · exact .inr ⟨u,hu,h1,h2⟩
    · rename_i h
      constructor
      · rintro (h1 | ⟨u,hu,h1⟩)
        · exact .inl h1
        · exact .inr ⟨u,by simp [hu],h1⟩
      · rintro (h1 | ⟨u,hu,h1,h2⟩)
        · exact .inl h1
        · rcases List.mem_cons.1 hu with rfl | hu
          · exact absurd h1 h
          · exact .inr ⟨u,hu,h1,h2⟩
theorem cliOf_mem {l : List Sub} {s : Sub} {c : Int} : c ∈ cliOf l s ↔ ∃ t ∈ l,fsame s.filter t.filter = true ∧ t.client = c := by
  unfold cliOf; rw [cli_mem]; simp
theorem cli_rising (s : Sub) : ∀ (l : List Sub) (acc : List Int),rising acc → rising (l.foldl (cliStep s) acc)
  | [],acc,h => h
  | t :: r,acc,h => by
    rw [List.foldl_cons]
    refine cli_rising s r _ ?_
    unfold cliStep
    split
    · exact layI_rising h
    · exact h
theorem cli_len (s : Sub) : ∀ (l : List Sub) (acc : List Int),(l.foldl (cliStep s) acc).length ≤ acc.length + l.length
  | [],acc => by simp
  | t :: r,acc => by
    rw [List.foldl_cons]
    have := cli_len s r (cliStep s acc t)
    have h2 : (cliStep s acc t).length ≤ acc.length + 1 := by
      unfold cliStep; split
      · exact layI_len _ _
      · omega
    simp only [List.length_cons]; omega
theorem cliOf_len (l : List Sub) (s : Sub) : (cliOf l s).length ≤ l.length := by
  have := cli_len s l []
  unfold cliOf; simpa using this
theorem first_of {l : List Sub} {t : Sub} (ht : t ∈ l) : ∃ k s,l[k]? = some s ∧ fstOf l k s = true ∧ fsame s.filter t.filter = true := by
  obtain ⟨j,hj⟩ := List.mem_iff_getElem?.1 ht
  have key : ∀ n : Nat,(∃ (k : Nat) (s : Sub),k < n ∧ l[k]? = some s ∧ fsame s.filter t.filter = true) → ∃ (k : Nat) (s : Sub),l[k]? = some s ∧ fstOf l k s = true ∧ fsame s.filter t.filter = true := by
    intro n
    induction n with
    | zero => rintro ⟨k,s,h,_⟩; omega
    | succ n ih =>
      rintro ⟨k,s,h1,h2,h3⟩
      by_cases hf : fstOf l k s = true
      · exact ⟨k,s,h2,hf,h3⟩
      · refine ih ?_
        have : ¬ ∀ (q : Nat) (t' : Sub),q < k → l[q]? = some t' → fsame s.filter t'.filter = false := fun h => hf (fstOf_iff.2 h)
        have ⟨q,u,h4,h5,h6⟩ : ∃ (q : Nat) (u : Sub),q < k ∧ l[q]? = some u ∧ fsame s.filter u.filter = true := by
          refine Classical.byContradiction fun hne => this fun q u hq hu => ?_
          cases hc : fsame s.filter u.filter with
          | false => rfl
          | true => exact absurd ⟨q,u,hq,hu,hc⟩ hne
        exact ⟨q,u,by omega,h5,fsame_trans (fsame_symm h6) h3⟩
  exact key (j + 1) ⟨j,t,by omega,hj,fsame_rfl _⟩
theorem matchG_len (A : List Attr) : ∀ (g : List Grp) (i : Nat) (out : List Int),(matchG A i g out).length ≤ out.length + g.length
  | [],_,_ => by simp [matchG]
  | y :: r,i,out => by
    unfold matchG
    have := matchG_len A r (i + 1) (if ftakes y.filter A then out ++ [(i : Int)] else out)
    split at this
    · rename_i h; rw [if_pos h]; simp at this ⊢; omega
    · rename_i h; rw [if_neg h]; simp at this ⊢; omega
theorem lay_fold_rising : ∀ (cs acc : List Int),rising acc → rising (cs.foldl layI acc)
  | [],_,h => h
  | x :: r,acc,h => lay_fold_rising r _ (layI_rising h)
end Go.Ab
namespace Go.Ab
open Go
theorem mineG_len (n : Int) : ∀ (g : List Grp) (i : Nat) (out : List Int),(mineG n i g out).length ≤ out.length + g.length
  | [],_,_ => by simp [mineG]
  | y :: r,i,out => by
    unfold mineG
    have := mineG_len n r (i + 1) (if hasI y.clients n then out ++ [(i : Int)] else out)
    split at this
    · rename_i h; rw [if_pos h]; simp at this ⊢; omega
    · rename_i h; rw [if_neg h]; simp at this ⊢; omega
end Go.Ab
namespace Go.Ab
open Go
def gtI (n : Int) : List Int → List Int → List Int
  | [],out => out
  | x :: r,out => gtI n r (if n < x then out ++ [x] else out)
theorem gtI_eq (n : Int) : ∀ (l out : List Int),gtI n l out = out ++ l.filter fun x => decide (n < x)
  | [],out => by simp [gtI]
  | x :: r,out => by
    unfold gtI
    rw [gtI_eq n r,List.filter_cons]
    split <;> simp_all
def putI (l : List Int) (n : Int) : List Int := if hasI l n then l else gtI n l (l.take (posI l n) ++ [n])
theorem above_filter {n : Int} : ∀ {l : List Int},(∀ x ∈ l,n < x) → (l.filter fun x => decide (n < x)) = l
  | [],_ => rfl
  | x :: r,h => by
    rw [List.filter_cons,if_pos (by simpa using h x (by simp)),above_filter fun y hy => h y (by simp [hy])]
theorem putI_eq : ∀ {l : List Int} {n : Int},rising l → putI l n = layI l n
  | [],n,_ => by simp [putI,hasI,gtI,posI,layI]
  | y :: r,n,h => by
    unfold rising at h
    rw [List.pairwise_cons] at h
    have ih := putI_eq (l := r) (n := n) h.2
    unfold putI at ih ⊢
    rw [gtI_eq] at ih ⊢
    unfold layI
    by_cases hy : y < n
    · have hp : posI (y :: r) n = posI r n + 1 := by unfold posI; rw [List.takeWhile_cons]; simp [hy]
      rw [if_pos hy,hp,← ih]
      have hh : hasI (y :: r) n = hasI r n := by
        show (if y = n then true else hasI r n) = _
        rw [if_neg (by omega)]
      have hf : (y :: r).filter (fun x => decide (n < x)) = r.filter fun x => decide (n < x) := by
        rw [List.filter_cons,if_neg (by simp; omega)]
      rw [hh,hf]
      cases hasI r n <;> simp
    · rw [if_neg hy]
      by_cases he : y = n
      · subst he
        rw [if_pos rfl,if_pos (by show (if y = y then true else hasI r y) = true; rw [if_pos rfl])]
      · rw [if_neg he]
        have hp : posI (y :: r) n = 0 := by unfold posI; rw [List.takeWhile_cons]; simp [hy]
        have hab : ∀ x ∈ y :: r,n < x := fun x hx => by
          rcases List.mem_cons.1 hx with rfl | hx
          · omega
          · have := h.1 x hx; omega
        have hn : hasI (y :: r) n = false := by
          cases hh : hasI (y :: r) n with
          | false => rfl
          | true => have := hab n (hasI_iff.1 hh); omega
        rw [hn,if_neg (by simp),hp,above_filter hab]
        simp
def oE (l : List Int) : E := if l = [] then .own 0 [] else .val (.slice (intVs l))
theorem oE_or (l : List Int) : (oE l = .own 0 [] ∧ l = []) ∨ oE l = .val (.slice (intVs l)) := by
  unfold oE
  split
  · rename_i h; exact .inl ⟨rfl,h⟩
  · exact .inr rfl
theorem layI_ne (l : List Int) (n : Int) : layI l n ≠ [] := fun h => by
  have : n ∈ layI l n := layI_mem.2 (.inl rfl)
  rw [h] at this; simp at this
theorem oE_lay (l : List Int) (n : Int) : oE (layI l n) = .val (.slice (intVs (layI l n))) := by unfold oE; rw [if_neg (layI_ne l n)]
theorem lay_fold_le : ∀ (cs acc : List Int),(cs.foldl layI acc).length ≤ acc.length + cs.length
  | [],acc => by simp
  | c :: r,acc => by
    have h1 := lay_fold_le r (layI acc c)
    have h2 := layI_len acc c
    simp only [List.foldl_cons,List.length_cons]; omega
end Go.Ab
/-! # Trees of brokers,in plain Lean -/
namespace Go.Ab
open Go
structure Atom where
  a : Int
  b : Int
  br : Int
  deriving Inhabited
def Atom.cells (x : Atom) : List V := [.int .i64 x.a,.int .i64 x.b,.int .i64 x.br]
def Atom.enc (x : Atom) : V := .agg x.cells
def encAtoms (l : List Atom) : List V := l.map Atom.enc
theorem encAtoms_length (l : List Atom) : (encAtoms l).length = l.length := by simp [encAtoms]
theorem encAtoms_get (l : List Atom) (i : Nat) : (encAtoms l)[i]? = (l[i]?).map Atom.enc := by simp [encAtoms]
theorem encAtoms_gE (l : List Atom) (i : Nat) (h : i < (encAtoms l).length) : (encAtoms l)[i]'h = (l[i]'(by rw [encAtoms_length] at h; exact h)).enc := by simp [encAtoms]
theorem flat_atom (v : Atom) : v.enc.flat = true := by simp [Atom.enc,Atom.cells,V.flat,flats]
theorem flats_atoms (l : List Atom) : flats (encAtoms l) = true := by
  induction l with
  | nil => rfl
  | cons x r ih => simp only [encAtoms,List.map_cons,flats,flat_atom] at ih ⊢; exact ih
attribute [simp] encAtoms_length encAtoms_get encAtoms_gE flat_atom flats_atoms Atom.enc Atom.cells
def bothI (v : List Int) : List Int → List Int → List Int
  | [],out => out
  | c :: r,out => bothI v r (if hasI v c then layI out c else out)
end Go.Ab
