/- Of any Subs, any attributes, any places, each answer of groups is as the document says. Part 7. -/
import Derived.Test.YtdoobejjedpcgaaK6
set_option linter.unusedVariables false
set_option linter.unusedSimpArgs false
set_option linter.unnecessarySimpa false
namespace Go.Proofs.Ytdoobejjedpcgaa
open Go Go.Ab
set_option maxRecDepth 20000
noncomputable section
variable (fr : Fr) (st : St) (k : Kt)
theorem ty34 : gS.ty 34 = some { k := .slice 2 48 true [.osl 0 [],.osl 0 []],size := 1,agg := false,zero := [.osl 0 []] } := by kernel_rfl
theorem ty40 : gS.ty 40 = some { k := .struct [(0,1,false),(1,1,false)],size := 2,agg := true,zero := [.osl 0 [],.osl 0 []] } := by kernel_rfl
def fi58 : FI := { body := codeOf Try.f58,ntmps := 18,results := [.tmp 4],pers := [0,1,4,5],locals := [],pure := true,marks := [] }
theorem fi99_eq : gS.fn 58 = some fi58 := by kernel_rfl
theorem st58 (a0 a1 : V) : startFr fi58 [a0,a1] = { ps := [(0,.val a0),(1,.val a1),(4,.any),(5,.any)],ts := [],lc := [] } := rfl
def b58 : Code := mini (codeOf Try.f58)
def c58_10 : Code := .cond (.tmp 9) .skip (.exit 0)
def c58_8 : Code := .seq (codeN b58 133) c58_10
def c58_18 : Code := .seq (codeN b58 2341) .ret
def c58_17 : Code := .cond (.tmp 17) c58_18 .skip
def c58_15 : Code := .seq (codeN b58 549) c58_17
def c58_22 : Code := codeN b58 229
def c58_13 : Code := .seq (.block 1 c58_15) c58_22
def c58_7 : Code := .seq c58_8 c58_13
def c58_6 : Code := .loop c58_7
def c58_5 : Code := .block 0 c58_6
def c58_3 : Code := .seq (codeN b58 9) c58_5
def c58_23 : Code := .seq (codeN b58 11) .ret
def c58_2 : Code := .seq c58_3 c58_23
def c58_0 : Code := .seq (codeN b58 2) c58_2
theorem E58 : evK gS fi58 c58_10 fr st k = condK gS fi58 (fr.op (.tmp 9)).bool? .skip (.exit 0) fr st k ∧
 (evK gS fi58 c58_8 fr st k = opsR gS fi58 [mv 6 5 3,
 mv 7 0 22,
 len1 8 7 22 3,
 bop 9 .lss 3 6 8 3 4] fr st (.seq c58_10 k)) ∧
 evK gS fi58 c58_18 fr st k = opsR gS fi58 [op1 4 (.assign (.const (.bool true))) 4] fr st (.seq .ret k) ∧
 evK gS fi58 c58_17 fr st k = condK gS fi58 (fr.op (.tmp 17)).bool? c58_18 .skip fr st k ∧
 (evK gS fi58 c58_15 fr st k = opsR gS fi58 [mv 12 0 22,
 mv 13 5 3,
 ixa 14 22 12 13 0,
 ld 15 3 14 3,
 mv 16 1 3,
 bop 17 .eql 3 15 16 3 4] fr st (.seq c58_17 k)) ∧
 (evK gS fi58 c58_22 fr st k = opsR gS fi58 [mv 10 5 3,
 op1 11 (.binOp .add 3 (.tmp 10) (.const (.int .i64 1)) 3) 3,
 asn 5 11 3] fr st k) ∧
 evK gS fi58 c58_13 fr st k = evK gS fi58 c58_15 fr st (.blk 1 (.seq c58_22 k)) ∧
 evK gS fi58 c58_7 fr st k = evK gS fi58 c58_8 fr st (.seq c58_13 k) ∧
 evK gS fi58 c58_5 fr st k = evK gS fi58 c58_6 fr st (.blk 0 k) ∧
 evK gS fi58 c58_3 fr st k = opsR gS fi58 [op1 5 (.assign (.const (.int .i64 0))) 3] fr st (.seq c58_5 k) ∧
 evK gS fi58 c58_23 fr st k = opsR gS fi58 [op1 4 (.assign (.const (.bool false))) 4] fr st (.seq .ret k) ∧
 evK gS fi58 c58_2 fr st k = evK gS fi58 c58_3 fr st (.seq c58_23 k) ∧
 evK gS fi58 c58_0 fr st k = opsR gS fi58 [op1 4 (.assign (.const (.bool false))) 4] fr st (.seq c58_2 k) := ⟨rfl,evK_rs 2 rfl (by kernel_rfl),evK_rs 5 rfl (by kernel_rfl),rfl,evK_rs 4 rfl (by kernel_rfl),evK_r 3 (by kernel_rfl),rfl,rfl,rfl,evK_rs 1 rfl (by kernel_rfl),evK_rs 6 rfl (by kernel_rfl),rfl,evK_rs 0 rfl (by kernel_rfl)⟩
theorem m58 : mini fi58.body = c58_0 := by kernel_rfl
theorem n58_6 (fr : Fr) (st : St) (k : Kt) : nextK gS fi58 (.loop c58_7 k) .normal fr st = evK gS fi58 c58_6 fr st k := rfl
set_option maxHeartbeats 4000000 in
theorem L58_6 (l : List Int) (n0 : Int) (h_l : l.length < 4611686018427387904) (st : St) : ∀ (n i : Nat) (j : Int)  (T : List (Nat × E)) (X : List (Nat × List V))  ,j = (i : Int) → i ≤ (l).length → (l).length - i = n →
    evK gS fi58 c58_6 { ps := [(0,.val (.slice (intVs l))),(1,.val (.int .i64 n0)),(4,.val (.bool false)),(5,.val (.int .i64 j))],ts := T,lc := X } st (.blk 0 (.seq c58_23 .nil)) = some ((.ret (.bool (hasI (l.drop i) n0)) none),st) := by
  intro n
  have hm : fi58.marks = [] := rfl
  have hl : fi58.locals = [] := rfl
  have hr : fi58.results = [.tmp 4] := rfl
  induction n with
  | zero =>
    intro i j   T X   hj hi hn
    obtain rfl : i = (l).length := by omega
    subst hj
    refine evK_loop c58_7 _ st _ _ rfl ?_
    simp (config := { contextual := true,maxSteps := 10000000,maxDischargeDepth := 6 }) [-Int.not_le,-Int.not_lt,-Nat.not_le,-Nat.not_lt,ty3,ty4,ty22,hm,hl,hr,E58,n58_6]
    all_goals try simp (config := { contextual := true }) [-Int.not_le,-Int.not_lt,-Nat.not_le,-Nat.not_lt,hasI]
    all_goals first | done | grind | omega | (trace_state; fail)
  | succ n ih =>
    intro i j   T X   hj hi hn
    subst hj
    obtain ⟨x,hx⟩ : ∃ x,(l)[i]? = some x := ⟨(l)[i]'(by omega),List.getElem?_eq_getElem (by omega)⟩
    have hd := drop_get hx
    have hlt : (i : Int) < ((l).length : Int) := by omega
    have hlt2 : i < (l).length := by omega
    have hxe : (l)[i]'hlt2 = x := by rw [List.getElem?_eq_getElem hlt2] at hx; exact Option.some.inj hx
    have hw : IntKind.wrap .i64 ((i : Int) + 1) = (i : Int) + 1 := wrap64 (by omega) (by omega)
    have IH := fun T X => ih (i + 1) ((i : Int) + 1) T X rfl (by omega) (by omega)
    refine evK_loop c58_7 _ st _ _ rfl ?_
    simp (config := { contextual := true,maxSteps := 10000000,maxDischargeDepth := 6 }) [-Int.not_le,-Int.not_lt,-Nat.not_le,-Nat.not_lt,ty3,ty4,ty22,hm,hl,hr,E58,n58_6,hx,hxe,hd,hlt,hlt2,hw,IH]
    all_goals try simp (config := { contextual := true }) [-Int.not_le,-Int.not_lt,-Nat.not_le,-Nat.not_lt,hasI]
    all_goals first | done | grind | omega | (trace_state; fail)
set_option maxHeartbeats 4000000 in
theorem c58 (l : List Int) (n0 : Int)  (h_l : l.length < 4611686018427387904) (st : St) : EvF gS 58 [.slice (intVs l),.int .i64 n0] st = some (.ret (.bool (hasI l n0)) none,st) := by
  refine EvF_start fi99_eq (fun x h => by cases h) m58 ?_
  rw [st58]
  have hm : fi58.marks = [] := rfl
  have hl : fi58.locals = [] := rfl
  have hr : fi58.results = [.tmp 4] := rfl
  simp (config := { contextual := true,maxSteps := 10000000,maxDischargeDepth := 6 }) [-Int.not_le,-Int.not_lt,-Nat.not_le,-Nat.not_lt,ty3,ty4,ty22,hm,hl,hr,E58,n58_6,(fun T X => L58_6 l n0 h_l st _ 0 0  T X rfl (Nat.zero_le _) rfl),h_l]
  all_goals try simp (config := { contextual := true }) [-Int.not_le,-Int.not_lt,-Nat.not_le,-Nat.not_lt,hasI]
  all_goals first | done | grind | omega | (trace_state; fail)
theorem k58 (l : List Int) (n0 : Int)  (h_l : l.length < 4611686018427387904) (fr : Fr) (st : St) : callStep gS (EvF gS) 58 [.slice (intVs l),.int .i64 n0] fr st = some (.ok (retE none (.bool (hasI l n0))) fr st) :=
  call_pure rfl fi99_eq rfl (fun st => c58 l n0 h_l st) (by simp)
theorem x58 : gS.ext 58 = none := rfl
theorem p58 : fi58.pure = true := rfl
def fi52 : FI := { body := codeOf Try.f52,ntmps := 57,results := [.tmp 4],pers := [0,1,4,5,6,7],locals := [],pure := true,marks := [1000000] }
theorem fi96_eq : gS.fn 52 = some fi52 := by kernel_rfl
theorem st52 (a0 a1 : V) : startFr fi52 [a0,a1] = { ps := [(0,.val a0),(1,.val a1),(4,.any),(5,.any),(6,.any),(7,.any)],ts := [],lc := [] } := rfl
def b52 : Code := mini (codeOf Try.f52)
def c52_6 : Code := .seq (codeN b52 37) .ret
def c52_5 : Code := .cond (.tmp 10) c52_6 .skip
def c52_3 : Code := .seq (codeN b52 9) c52_5
def c52_20 : Code := .cond (.tmp 23) .skip (.exit 0)
def c52_18 : Code := .seq (codeN b52 535) c52_20
def c52_25 : Code := codeN b52 1175
def c52_26 : Code := codeN b52 919
def c52_23 : Code := .seq (.block 1 c52_25) c52_26
def c52_17 : Code := .seq c52_18 c52_23
def c52_16 : Code := .loop c52_17
def c52_15 : Code := .block 0 c52_16
def c52_13 : Code := .seq (codeN b52 39) c52_15
def c52_37 : Code := .cond (.tmp 40) .skip (.exit 2)
def c52_35 : Code := .seq (codeN b52 2143) c52_37
def c52_45 : Code := codeN b52 21087
def c52_44 : Code := .cond (.tmp 48) c52_45 .skip
def c52_42 : Code := .seq (codeN b52 8799) c52_44
def c52_47 : Code := codeN b52 3679
def c52_40 : Code := .seq (.block 3 c52_42) c52_47
def c52_34 : Code := .seq c52_35 c52_40
def c52_33 : Code := .loop c52_34
def c52_32 : Code := .block 2 c52_33
def c52_30 : Code := .seq (codeN b52 159) c52_32
def c52_48 : Code := .seq (codeN b52 191) .ret
theorem e52_48 : evK gS fi52 c52_48 fr st k = opsR gS fi52 [mv 56 5 22,
 asn 4 56 22] fr st (.seq .ret k) := evK_rs 14 rfl (by kernel_rfl)
def c52_29 : Code := .seq c52_30 c52_48
def c52_27 : Code := .seq (codeN b52 47) c52_29
theorem e52_27 : evK gS fi52 c52_27 fr st k = opsR gS fi52 [mv 33 5 22,
 mv 34 1 3,
 op1 35 (.buildSlice 22 1 #[(0,(.tmp 34))]) 22,
 op1 36 (.call { callee := (.builtin .append),args := #[(.tmp 33),(.tmp 35)],argTypes := #[22,22] }) 22,
 asn 5 36 22] fr st (.seq c52_29 k) := evK_rs 8 rfl (by kernel_rfl)
def c52_12 : Code := .seq c52_13 c52_27
def c52_10 : Code := .seq (codeN b52 11) c52_12
def c52_2 : Code := .seq c52_3 c52_10
def c52_0 : Code := .seq (codeN b52 2) c52_2
theorem E52 : (evK gS fi52 c52_6 fr st k = opsR gS fi52 [mv 11 0 22,
 asn 4 11 22] fr st (.seq .ret k)) ∧
 evK gS fi52 c52_5 fr st k = condK gS fi52 (fr.op (.tmp 10)).bool? c52_6 .skip fr st k ∧
 (evK gS fi52 c52_3 fr st k = opsR gS fi52 [mv 8 0 22,
 mv 9 1 3,
 cal 10 58 [(.tmp 8),(.tmp 9)] [22,3] 4] fr st (.seq c52_5 k)) ∧
 evK gS fi52 c52_20 fr st k = condK gS fi52 (fr.op (.tmp 23)).bool? .skip (.exit 0) fr st k ∧
 (evK gS fi52 c52_18 fr st k = opsR gS fi52 [mv 12 6 3,
 mv 13 0 22,
 len1 14 13 22 3,
 bop 15 .lss 3 12 14 3 4,
 mv 16 15 4,
 mk (some 17) (.move (.tmp 0)) 22 (some (4,true)),
 mk (some 18) (.move (.tmp 6)) 3 (some (4,true)),
 mk (some 19) (.indexAddr 22 (.tmp 17) (.tmp 18)) 0 (some (4,true)),
 mk (some 20) (.load 3 (.tmp 19)) 3 (some (4,true)),
 mk (some 21) (.move (.tmp 1)) 3 (some (4,true)),
 mk (some 22) (.binOp .lss 3 (.tmp 20) (.tmp 21) 3) 4 (some (4,true)),
 op1 23 (.pick (.tmp 16) (.tmp 22) (.const (.bool false))) 4] fr st (.seq c52_20 k)) ∧
 (evK gS fi52 c52_25 fr st k = opsR gS fi52 [mv 26 5 22,
 mv 27 0 22,
 mv 28 6 3,
 ixa 29 22 27 28 0,
 ld 30 3 29 3,
 op1 31 (.buildSlice 22 1 #[(0,(.tmp 30))]) 22,
 op1 32 (.call { callee := (.builtin .append),args := #[(.tmp 26),(.tmp 31)],argTypes := #[22,22] }) 22,
 asn 5 32 22] fr st k) ∧
 (evK gS fi52 c52_26 fr st k = opsR gS fi52 [mv 24 6 3,
 op1 25 (.binOp .add 3 (.tmp 24) (.const (.int .i64 1)) 3) 3,
 asn 6 25 3] fr st k) ∧
 evK gS fi52 c52_23 fr st k = evK gS fi52 c52_25 fr st (.blk 1 (.seq c52_26 k)) ∧
 evK gS fi52 c52_17 fr st k = evK gS fi52 c52_18 fr st (.seq c52_23 k) ∧
 evK gS fi52 c52_15 fr st k = evK gS fi52 c52_16 fr st (.blk 0 k) ∧
 evK gS fi52 c52_13 fr st k = opsR gS fi52 [op1 6 (.assign (.const (.int .i64 0))) 3] fr st (.seq c52_15 k) ∧
 evK gS fi52 c52_37 fr st k = condK gS fi52 (fr.op (.tmp 40)).bool? .skip (.exit 2) fr st k ∧
 (evK gS fi52 c52_35 fr st k = opsR gS fi52 [mv 37 7 3,
 mv 38 0 22,
 len1 39 38 22 3,
 bop 40 .lss 3 37 39 3 4] fr st (.seq c52_37 k)) ∧
 (evK gS fi52 c52_45 fr st k = opsR gS fi52 [mv 49 5 22,
 mv 50 0 22,
 mv 51 7 3,
 ixa 52 22 50 51 0,
 ld 53 3 52 3,
 op1 54 (.buildSlice 22 1 #[(0,(.tmp 53))]) 22,
 op1 55 (.call { callee := (.builtin .append),args := #[(.tmp 49),(.tmp 54)],argTypes := #[22,22] }) 22,
 asn 5 55 22] fr st k) ∧
 evK gS fi52 c52_44 fr st k = condK gS fi52 (fr.op (.tmp 48)).bool? c52_45 .skip fr st k ∧
 (evK gS fi52 c52_42 fr st k = opsR gS fi52 [mv 43 0 22,
 mv 44 7 3,
 ixa 45 22 43 44 0,
 ld 46 3 45 3,
 mv 47 1 3,
 bop 48 .gtr 3 46 47 3 4] fr st (.seq c52_44 k)) ∧
 (evK gS fi52 c52_47 fr st k = opsR gS fi52 [mv 41 7 3,
 op1 42 (.binOp .add 3 (.tmp 41) (.const (.int .i64 1)) 3) 3,
 asn 7 42 3] fr st k) ∧
 evK gS fi52 c52_40 fr st k = evK gS fi52 c52_42 fr st (.blk 3 (.seq c52_47 k)) ∧
 evK gS fi52 c52_34 fr st k = evK gS fi52 c52_35 fr st (.seq c52_40 k) ∧
 evK gS fi52 c52_32 fr st k = evK gS fi52 c52_33 fr st (.blk 2 k) ∧
 evK gS fi52 c52_30 fr st k = opsR gS fi52 [op1 7 (.assign (.const (.int .i64 0))) 3] fr st (.seq c52_32 k) ∧
 evK gS fi52 c52_29 fr st k = evK gS fi52 c52_30 fr st (.seq c52_48 k) ∧
 evK gS fi52 c52_12 fr st k = evK gS fi52 c52_13 fr st (.seq c52_27 k) ∧
 evK gS fi52 c52_10 fr st k = opsR gS fi52 [op1 5 (.assign (.const (.slice none 0 0))) 22] fr st (.seq c52_12 k) ∧
 evK gS fi52 c52_2 fr st k = evK gS fi52 c52_3 fr st (.seq c52_10 k) ∧
 evK gS fi52 c52_0 fr st k = opsR gS fi52 [op1 4 (.assign (.const (.slice none 0 0))) 22] fr st (.seq c52_2 k) := ⟨evK_rs 2 rfl (by kernel_rfl),rfl,evK_rs 1 rfl (by kernel_rfl),rfl,evK_rs 5 rfl (by kernel_rfl),evK_r 7 (by kernel_rfl),evK_r 6 (by kernel_rfl),rfl,rfl,rfl,evK_rs 4 rfl (by kernel_rfl),rfl,evK_rs 10 rfl (by kernel_rfl),evK_r 13 (by kernel_rfl),rfl,evK_rs 12 rfl (by kernel_rfl),evK_r 11 (by kernel_rfl),rfl,rfl,rfl,evK_rs 9 rfl (by kernel_rfl),rfl,rfl,evK_rs 3 rfl (by kernel_rfl),rfl,evK_rs 0 rfl (by kernel_rfl)⟩
theorem m52 : mini fi52.body = c52_0 := by kernel_rfl
theorem n52_16 (fr : Fr) (st : St) (k : Kt) : nextK gS fi52 (.loop c52_17 k) .normal fr st = evK gS fi52 c52_16 fr st k := rfl
theorem n52_33 (fr : Fr) (st : St) (k : Kt) : nextK gS fi52 (.loop c52_34 k) .normal fr st = evK gS fi52 c52_33 fr st k := rfl
set_option maxHeartbeats 8000000 in
theorem LP1 (l : List Int) (hl1 : l.length < 100000) (n0 : Int) (S : St) (R : Out × St)  (fin : List Int)
    (H : ∀ (e7 : E) (T : List (Nat × E)) (X : List (Nat × List V)),e7.Tame → evK gS fi52 c52_27 { ps := [(0,.val (.slice (intVs l))),(1,.val (.int .i64 n0)),(4,.own 0 []),(5,.own (kof 1 fin) (intVs fin)),(6,.val (.int .i64 (posI l n0))),(7,e7)],ts := T,lc := X } S .nil = some R) :
    ∀ (m q : Nat) (out : List Int) (e7 : E) (T : List (Nat × E)) (X : List (Nat × List V)) (h7 : e7.Tame),q ≤ (posI l n0) → (posI l n0) - q = m → fin = out ++ (l.drop q).take (posI l n0 - q) → out.length ≤ q →
    evK gS fi52 c52_16 { ps := [(0,.val (.slice (intVs l))),(1,.val (.int .i64 n0)),(4,.own 0 []),(5,.own (kof 1 out) (intVs out)),(6,.val (.int .i64 (q : Nat))),(7,e7)],ts := T,lc := X } S (.blk 0 (.seq c52_27 .nil)) = some R := by
  intro m
  have hm : fi52.marks = [1000000] := rfl
  have hl : fi52.locals = [] := rfl
  have hr : fi52.results = [.tmp 4] := rfl
  induction m with
  | zero =>
    intro q out e7 T X h7 hq hm2 hf hol
    obtain rfl : q = (posI l n0) := by omega
    rw [Nat.sub_self,List.take_zero,List.append_nil] at hf
    subst hf
    have hpl := posI_le l n0
    have hex : ((posI l n0 : Nat) : Int) < (l.length : Int) ∧ (∃ y,l[posI l n0]? = some y ∧ ¬ y < n0) ∨ ¬ ((posI l n0 : Nat) : Int) < (l.length : Int) := by
      cases hx : l[posI l n0]? with
      | none => exact .inr (by rw [List.getElem?_eq_none_iff] at hx; omega)
      | some y => exact .inl ⟨by have := (List.getElem?_eq_some_iff.1 hx).1; omega,y,rfl,posI_ge l n0 y hx⟩
    generalize hpp : posI l n0 = pp at *
    refine evK_loop c52_17 _ _ _ _ rfl ?_
    rcases hex with ⟨hlt,y,hy,hge⟩ | hlt
    · obtain ⟨hlt2,hye⟩ := List.getElem?_eq_some_iff.1 hy
      rcases kof_or 1 fin with ⟨hk,rfl⟩ | hk
      · rw [hk,show intVs [] = [] from rfl] at H ⊢
        simp (config := { implicitDefEqProofs := false }) [-Int.natCast_add,hlt,hlt2,hy,hye,hge,-St.obj,-St.set,h7,-Int.not_le,-Int.not_lt,-Nat.not_le,-Nat.not_lt,ty3,ty4,ty22,hm,hl,hr,E52,e52_48,n52_16,n52_33]
        exact H _ _ _ h7
      · rw [hk] at H ⊢
        simp (config := { implicitDefEqProofs := false }) [-Int.natCast_add,hlt,hlt2,hy,hye,hge,-St.obj,-St.set,h7,-Int.not_le,-Int.not_lt,-Nat.not_le,-Nat.not_lt,ty3,ty4,ty22,hm,hl,hr,E52,e52_48,n52_16,n52_33]
        exact H _ _ _ h7
    · rcases kof_or 1 fin with ⟨hk,rfl⟩ | hk
      · rw [hk,show intVs [] = [] from rfl] at H ⊢
        simp (config := { implicitDefEqProofs := false }) [-Int.natCast_add,hlt,-St.obj,-St.set,h7,-Int.not_le,-Int.not_lt,-Nat.not_le,-Nat.not_lt,ty3,ty4,ty22,hm,hl,hr,E52,e52_48,n52_16,n52_33]
        exact H _ _ _ h7
      · rw [hk] at H ⊢
        simp (config := { implicitDefEqProofs := false }) [-Int.natCast_add,hlt,-St.obj,-St.set,h7,-Int.not_le,-Int.not_lt,-Nat.not_le,-Nat.not_lt,ty3,ty4,ty22,hm,hl,hr,E52,e52_48,n52_16,n52_33]
        exact H _ _ _ h7
  | succ m ih =>
    intro q out e7 T X h7 hq hm2 hf hol
    have hpl := posI_le l n0
    obtain ⟨x,hx⟩ : ∃ x,l[q]? = some x := ⟨l[q]'(by omega),List.getElem?_eq_getElem (by omega)⟩
    have hlt : (q : Int) < (l.length : Int) := by omega
    obtain ⟨hlt2,hxe⟩ := List.getElem?_eq_some_iff.1 hx
    have hw : IntKind.wrap .i64 ((q : Int) + 1) = ((q + 1 : Nat) : Int) := by rw [wrap64 (by omega) (by omega)]; omega
    have hlx := posI_lt l n0 q x (by omega) hx
    rw [drop_get hx,show posI l n0 - q = (posI l n0 - (q + 1)) + 1 from by omega,List.take_succ_cons,List.append_cons out x] at hf
    have hs1 := sizes_ints out
    have hs2 := ints_snoc out x
    have b1 : (out.length + 1) * 8 ≤ 140737488355328 := by omega
    have b2 : out.length + 1 ≤ 140737488355328 := by omega
    refine evK_loop c52_17 _ _ _ _ rfl ?_
    have IH := fun e7 T X h7 => ih (q + 1) (out ++ [x]) e7 T X h7 (by omega) (by omega) hf (by simp; omega)
    rw [kof_snoc] at IH
    rcases kof_or 1 out with ⟨hk,rfl⟩ | hk
    · have en1 : intVs ([] ++ [x]) = [.int .i64 x] := rfl
      rw [en1] at IH
      rw [hk,show intVs [] = [] from rfl]
      simp (config := { implicitDefEqProofs := false }) [-Int.natCast_add,h7,hx,hxe,hlt,hlt2,hw,hlx,-Int.not_le,-Int.not_lt,-Nat.not_le,-Nat.not_lt,ty3,ty4,ty22,hm,hl,hr,E52,e52_48,e52_27,n52_16,n52_33]
      exact IH _ _ _ h7
    · rw [hk]
      simp (config := { implicitDefEqProofs := false }) [-Int.natCast_add,-List.append_assoc,h7,hx,hxe,hlt,hlt2,hw,hlx,hs1,hs2,b1,b2,-Int.not_le,-Int.not_lt,-Nat.not_le,-Nat.not_lt,ty3,ty4,ty22,hm,hl,hr,E52,e52_48,e52_27,n52_16,n52_33]
      exact IH _ _ _ h7
set_option maxHeartbeats 8000000 in
theorem LP2 (l : List Int) (hl1 : l.length < 100000) (n0 : Int) (S : St) (R : Out × St)  (fin : List Int)
    (H : ∀ (e6 : E) (T : List (Nat × E)) (X : List (Nat × List V)),e6.Tame → evK gS fi52 c52_48 { ps := [(0,.val (.slice (intVs l))),(1,.val (.int .i64 n0)),(4,.own 0 []),(5,.own (kof 1 fin) (intVs fin)),(6,e6),(7,.val (.int .i64 l.length))],ts := T,lc := X } S .nil = some R) :
    ∀ (m q : Nat) (out : List Int) (e6 : E) (T : List (Nat × E)) (X : List (Nat × List V)) (h6 : e6.Tame),q ≤ l.length → l.length - q = m → fin = gtI n0 (l.drop q) out → out.length ≤ 100001 + q →
    evK gS fi52 c52_33 { ps := [(0,.val (.slice (intVs l))),(1,.val (.int .i64 n0)),(4,.own 0 []),(5,.own (kof 1 out) (intVs out)),(6,e6),(7,.val (.int .i64 (q : Nat)))],ts := T,lc := X } S (.blk 2 (.seq c52_48 .nil)) = some R := by
  intro m
  have hm : fi52.marks = [1000000] := rfl
  have hl : fi52.locals = [] := rfl
  have hr : fi52.results = [.tmp 4] := rfl
  induction m with
  | zero =>
    intro q out e6 T X h6 hq hm2 hf hol
    obtain rfl : q = l.length := by omega
    rw [List.drop_length] at hf
    have hf2 : fin = out := hf
    subst hf2
    refine evK_loop c52_34 _ _ _ _ rfl ?_
    rcases kof_or 1 fin with ⟨hk,rfl⟩ | hk
    · rw [hk,show intVs [] = [] from rfl] at H ⊢
      simp (config := { implicitDefEqProofs := false }) [-Int.natCast_add,-St.obj,-St.set,h6,-Int.not_le,-Int.not_lt,-Nat.not_le,-Nat.not_lt,ty3,ty4,ty22,hm,hl,hr,E52,e52_27,n52_16,n52_33]
      exact H _ _ _ h6
    · rw [hk] at H ⊢
      simp (config := { implicitDefEqProofs := false }) [-Int.natCast_add,-St.obj,-St.set,h6,-Int.not_le,-Int.not_lt,-Nat.not_le,-Nat.not_lt,ty3,ty4,ty22,hm,hl,hr,E52,e52_27,n52_16,n52_33]
      exact H _ _ _ h6
  | succ m ih =>
    intro q out e6 T X h6 hq hm2 hf hol
    obtain ⟨x,hx⟩ : ∃ x,l[q]? = some x := ⟨l[q]'(by omega),List.getElem?_eq_getElem (by omega)⟩
    have hlt : (q : Int) < (l.length : Int) := by omega
    obtain ⟨hlt2,hxe⟩ := List.getElem?_eq_some_iff.1 hx
    have hw : IntKind.wrap .i64 ((q : Int) + 1) = ((q + 1 : Nat) : Int) := by rw [wrap64 (by omega) (by omega)]; omega
    rw [drop_get hx,show gtI n0 (x :: l.drop (q + 1)) out = gtI n0 (l.drop (q + 1)) (if n0 < x then out ++ [x] else out) from rfl] at hf
    have hs1 := sizes_ints out
    have hs2 := ints_snoc out x
    have b1 : (out.length + 1) * 8 ≤ 140737488355328 := by omega
    have b2 : out.length + 1 ≤ 140737488355328 := by omega
    refine evK_loop c52_34 _ _ _ _ rfl ?_
    by_cases hc : n0 < x
    · rw [if_pos hc] at hf
      have IH := fun e6 T X h6 => ih (q + 1) (out ++ [x]) e6 T X h6 (by omega) (by omega) hf (by simp; omega)
      rw [kof_snoc] at IH
      rcases kof_or 1 out with ⟨hk,rfl⟩ | hk
      · have en1 : intVs ([] ++ [x]) = [.int .i64 x] := rfl
        rw [en1] at IH
        rw [hk,show intVs [] = [] from rfl]
        simp (config := { implicitDefEqProofs := false }) [-Int.natCast_add,h6,hx,hxe,hlt,hlt2,hw,hc,-Int.not_le,-Int.not_lt,-Nat.not_le,-Nat.not_lt,ty3,ty4,ty22,hm,hl,hr,E52,e52_48,e52_27,n52_16,n52_33]
        exact IH _ _ _ h6
      · rw [hk]
        simp (config := { implicitDefEqProofs := false }) [-Int.natCast_add,-List.append_assoc,h6,hx,hxe,hlt,hlt2,hw,hc,hs1,hs2,b1,b2,-Int.not_le,-Int.not_lt,-Nat.not_le,-Nat.not_lt,ty3,ty4,ty22,hm,hl,hr,E52,e52_48,e52_27,n52_16,n52_33]
        exact IH _ _ _ h6
    · rw [if_neg hc] at hf
      have IH := fun e6 T X h6 => ih (q + 1) out e6 T X h6 (by omega) (by omega) hf (by omega)
      rcases kof_or 1 out with ⟨hk,rfl⟩ | hk
      · rw [hk,show intVs [] = [] from rfl] at IH ⊢
        simp (config := { implicitDefEqProofs := false }) [-Int.natCast_add,h6,hx,hxe,hlt,hlt2,hw,hc,-Int.not_le,-Int.not_lt,-Nat.not_le,-Nat.not_lt,ty3,ty4,ty22,hm,hl,hr,E52,e52_48,e52_27,n52_16,n52_33]
        exact IH _ _ _ h6
      · rw [hk] at IH ⊢
        simp (config := { implicitDefEqProofs := false }) [-Int.natCast_add,h6,hx,hxe,hlt,hlt2,hw,hc,-Int.not_le,-Int.not_lt,-Nat.not_le,-Nat.not_lt,ty3,ty4,ty22,hm,hl,hr,E52,e52_48,e52_27,n52_16,n52_33]
        exact IH _ _ _ h6
set_option maxHeartbeats 8000000 in
theorem c52 (l : List Int) (hl1 : l.length < 100000) (hri : rising l) (n0 : Int) (S : St) : EvF gS 52 [.slice (intVs l),.int .i64 n0] S = some (.ret (.slice (intVs (layI l n0))) none,S) := by
  refine EvF_start fi96_eq (fun x h => by cases h) m52 ?_
  rw [st52]
  have hm : fi52.marks = [1000000] := rfl
  have hl : fi52.locals = [] := rfl
  have hr : fi52.results = [.tmp 4] := rfl
  have hz := fun xs st => frz_slice (xs := intVs xs) (flats_ints xs) st
  have hz0 := hz [] S
  rw [show intVs [] = [] from rfl] at hz0
  have ki := fun fr st => k58 l n0 (by omega) fr st
  rw [← putI_eq hri]
  unfold putI
  cases hi : hasI l n0 with
  | true =>
    rw [hi] at ki
    rw [if_pos rfl]
    simp [ki,hz,-Int.not_le,-Int.not_lt,-Nat.not_le,-Nat.not_lt,ty3,ty4,ty22,hm,hl,hr,E52,e52_48,e52_27,n52_16,n52_33]
  | false =>
    rw [hi] at ki
    rw [if_neg (by simp)]
    have hpl := posI_le l n0
    generalize hK : gtI n0 l (l.take (posI l n0) ++ [n0]) = K
    generalize hR : (Out.ret (V.slice (intVs K)) none,S) = R
    have H48 : ∀ (e6 : E) (T : List (Nat × E)) (X : List (Nat × List V)),e6.Tame → evK gS fi52 c52_48 { ps := [(0,.val (.slice (intVs l))),(1,.val (.int .i64 n0)),(4,.own 0 []),(5,.own (kof 1 K) (intVs K)),(6,e6),(7,.val (.int .i64 l.length))],ts := T,lc := X } S .nil = some R := by
      intro e6 T X h6
      rcases kof_or 1 K with ⟨hk,rfl⟩ | hk
      · rw [hk,show intVs [] = [] from rfl]
        simp (config := { implicitDefEqProofs := false }) [-Int.natCast_add,h6,hz0,← hR,show intVs [] = [] from rfl,-Int.not_le,-Int.not_lt,-Nat.not_le,-Nat.not_lt,ty3,ty4,ty22,hm,hl,hr,E52,e52_48,e52_27,n52_16,n52_33]
      · rw [hk]
        simp (config := { implicitDefEqProofs := false }) [-Int.natCast_add,h6,hz,← hR,-Int.not_le,-Int.not_lt,-Nat.not_le,-Nat.not_lt,ty3,ty4,ty22,hm,hl,hr,E52,e52_48,e52_27,n52_16,n52_33]
    have LL2 := fun e6 T X h6 => LP2 l hl1 n0 S R K H48 l.length 0 (l.take (posI l n0) ++ [n0]) e6 T X h6 (Nat.zero_le _) rfl (by rw [List.drop_zero]; exact hK.symm) (by simp; omega)
    rw [show ((0 : Nat) : Int) = 0 from rfl] at LL2
    rw [kof_snoc] at LL2
    generalize hpf : l.take (posI l n0) = pf at *
    have hs1 := sizes_ints pf
    have hs2 := ints_snoc pf n0
    have hpfl : pf.length ≤ 100000 := by rw [← hpf]; simp; omega
    have b1 : (pf.length + 1) * 8 ≤ 140737488355328 := by omega
    have b2 : pf.length + 1 ≤ 140737488355328 := by omega
    have H27 : ∀ (e7 : E) (T : List (Nat × E)) (X : List (Nat × List V)),e7.Tame → evK gS fi52 c52_27 { ps := [(0,.val (.slice (intVs l))),(1,.val (.int .i64 n0)),(4,.own 0 []),(5,.own (kof 1 pf) (intVs pf)),(6,.val (.int .i64 (posI l n0 : Nat))),(7,e7)],ts := T,lc := X } S .nil = some R := by
      intro e7 T X h7
      rcases kof_or 1 pf with ⟨hk,hpn⟩ | hk
      · rw [hpn] at LL2
        rw [hk,hpn,show intVs [] = [] from rfl]
        simp only [List.nil_append,show intVs [n0] = [.int .i64 n0] from rfl] at LL2
        simp (config := { implicitDefEqProofs := false }) [-Int.natCast_add,h7,-Int.not_le,-Int.not_lt,-Nat.not_le,-Nat.not_lt,ty3,ty4,ty22,hm,hl,hr,E52,e52_48,e52_27,n52_16,n52_33]
        exact LL2 _ _ _ (tame_val _)
      · rw [hk]
        simp (config := { implicitDefEqProofs := false }) [-Int.natCast_add,-List.append_assoc,h7,hs1,hs2,b1,b2,-Int.not_le,-Int.not_lt,-Nat.not_le,-Nat.not_lt,ty3,ty4,ty22,hm,hl,hr,E52,e52_48,e52_27,n52_16,n52_33]
        exact LL2 _ _ _ (tame_val _)
    have LL1 := fun e7 T X h7 => LP1 l hl1 n0 S R pf H27 (posI l n0) 0 [] e7 T X h7 (Nat.zero_le _) rfl (by rw [List.drop_zero,List.nil_append,Nat.sub_zero]; exact hpf.symm) (Nat.le_refl _)
    rw [show ((0 : Nat) : Int) = 0 from rfl] at LL1
    rw [show kof 1 ([] : List Int) = 0 from rfl,show intVs [] = [] from rfl] at LL1
    simp [ki,-Int.not_le,-Int.not_lt,-Nat.not_le,-Nat.not_lt,ty3,ty4,ty22,hm,hl,hr,E52,e52_48,e52_27,n52_16,n52_33]
    exact LL1 _ _ _ tame_any
theorem k52 (l : List Int) (hl1 : l.length < 100000) (hri : rising l) (n0 : Int) (fr : Fr) (st : St) : callStep gS (EvF gS) 52 [.slice (intVs l),.int .i64 n0] fr st = some (.ok (.val (.slice (intVs (layI l n0)))) fr st) :=
  call_pure rfl fi96_eq rfl (fun st => c52 l hl1 hri n0 st) (by simp [V.flat])
theorem x52 : gS.ext 52 = none := rfl
theorem p52 : fi52.pure = true := rfl
def fi16 : FI := { body := codeOf Try.f16,ntmps := 26,results := [.tmp 4],pers := [0,1,4,5],locals := [],pure := true,marks := [] }
theorem fi57_eq : gS.fn 16 = some fi16 := by kernel_rfl
theorem st16 (a0 a1 : V) : startFr fi16 [a0,a1] = { ps := [(0,.val a0),(1,.val a1),(4,.any),(5,.any)],ts := [],lc := [] } := rfl
def b16 : Code := mini (codeOf Try.f16)
def c16_6 : Code := .seq (codeN b16 37) .ret
def c16_5 : Code := .cond (.tmp 10) c16_6 .skip
def c16_3 : Code := .seq (codeN b16 9) c16_5
def c16_18 : Code := .cond (.tmp 14) .skip (.exit 0)
def c16_16 : Code := .seq (codeN b16 267) c16_18
def r16_24 : Array Oper := regOps (codeN (codeOf Try.f16) 1099)
def c16_24 : Code := .region 6 r16_24 true
def q16_24 : List (Oper × Fl) := [(mv 17 0 22,⟨true,false,true,false,false,false,true,true,false,false,[]⟩),
 (mv 18 5 3,⟨true,false,true,false,false,false,true,true,false,false,[]⟩),
 (ixa 19 22 17 18 0,⟨true,false,true,false,false,false,true,true,false,false,[]⟩),
 (ld 20 3 19 3,⟨true,false,true,false,false,false,true,true,false,false,[]⟩),
 (mv 21 1 22,⟨true,false,true,false,false,false,true,true,false,false,[]⟩),
 (mv 22 5 3,⟨true,false,true,false,true,false,true,true,false,false,[]⟩),
 (ixa 23 22 21 22 0,⟨true,false,true,false,true,false,true,true,false,false,[]⟩),
 (ld 24 3 23 3,⟨true,false,true,false,true,false,true,true,false,false,[]⟩),
 (bop 25 .neq 3 20 24 3 4,⟨true,true,true,false,true,false,true,true,false,false,[]⟩)]
def c16_26 : Code := .seq (codeN b16 4683) .ret
def c16_25 : Code := .cond (.tmp 25) c16_26 .skip
def c16_23 : Code := .seq c16_24 c16_25
def c16_30 : Code := codeN b16 459
def c16_21 : Code := .seq (.block 1 c16_23) c16_30
def c16_15 : Code := .seq c16_16 c16_21
def c16_14 : Code := .loop c16_15
def c16_13 : Code := .block 0 c16_14
def c16_11 : Code := .seq (codeN b16 19) c16_13
def c16_31 : Code := .seq (codeN b16 23) .ret
theorem e16_31 : evK gS fi16 c16_31 fr st k = opsR gS fi16 [op1 4 (.assign (.const (.bool true))) 4] fr st (.seq .ret k) := evK_rs 8 rfl (by kernel_rfl)
def c16_10 : Code := .seq c16_11 c16_31
def c16_2 : Code := .seq c16_3 c16_10
def c16_0 : Code := .seq (codeN b16 2) c16_2
theorem E16 : evK gS fi16 c16_6 fr st k = opsR gS fi16 [op1 4 (.assign (.const (.bool false))) 4] fr st (.seq .ret k) ∧
 evK gS fi16 c16_5 fr st k = condK gS fi16 (fr.op (.tmp 10)).bool? c16_6 .skip fr st k ∧
 (evK gS fi16 c16_3 fr st k = opsR gS fi16 [mv 6 0 22,
 len1 7 6 22 3,
 mv 8 1 22,
 len1 9 8 22 3,
 bop 10 .neq 3 7 9 3 4] fr st (.seq c16_5 k)) ∧
 evK gS fi16 c16_18 fr st k = condK gS fi16 (fr.op (.tmp 14)).bool? .skip (.exit 0) fr st k ∧
 (evK gS fi16 c16_16 fr st k = opsR gS fi16 [mv 11 5 3,
 mv 12 0 22,
 len1 13 12 22 3,
 bop 14 .lss 3 11 13 3 4] fr st (.seq c16_18 k)) ∧
 evK gS fi16 c16_24 fr st k = drwR gS fi16 r16_24 q16_24 fr st k ∧
 evK gS fi16 c16_26 fr st k = opsR gS fi16 [op1 4 (.assign (.const (.bool false))) 4] fr st (.seq .ret k) ∧
 evK gS fi16 c16_25 fr st k = condK gS fi16 (fr.op (.tmp 25)).bool? c16_26 .skip fr st k ∧
 evK gS fi16 c16_23 fr st k = evK gS fi16 c16_24 fr st (.seq c16_25 k) ∧
 (evK gS fi16 c16_30 fr st k = opsR gS fi16 [mv 15 5 3,
 op1 16 (.binOp .add 3 (.tmp 15) (.const (.int .i64 1)) 3) 3,
 asn 5 16 3] fr st k) ∧
 evK gS fi16 c16_21 fr st k = evK gS fi16 c16_23 fr st (.blk 1 (.seq c16_30 k)) ∧
 evK gS fi16 c16_15 fr st k = evK gS fi16 c16_16 fr st (.seq c16_21 k) ∧
 evK gS fi16 c16_13 fr st k = evK gS fi16 c16_14 fr st (.blk 0 k) ∧
 evK gS fi16 c16_11 fr st k = opsR gS fi16 [op1 5 (.assign (.const (.int .i64 0))) 3] fr st (.seq c16_13 k) ∧
 evK gS fi16 c16_10 fr st k = evK gS fi16 c16_11 fr st (.seq c16_31 k) ∧
 evK gS fi16 c16_2 fr st k = evK gS fi16 c16_3 fr st (.seq c16_10 k) ∧
 evK gS fi16 c16_0 fr st k = opsR gS fi16 [op1 4 (.assign (.const (.bool false))) 4] fr st (.seq c16_2 k) := ⟨evK_rs 2 rfl (by kernel_rfl),rfl,evK_rs 1 rfl (by kernel_rfl),rfl,evK_rs 4 rfl (by kernel_rfl),evK_dr 6 rfl (by kernel_rfl) (by kernel_rfl),evK_rs 7 rfl (by kernel_rfl),rfl,rfl,evK_r 5 (by kernel_rfl),rfl,rfl,rfl,evK_rs 3 rfl (by kernel_rfl),rfl,rfl,evK_rs 0 rfl (by kernel_rfl)⟩
theorem m16 : mini fi16.body = c16_0 := by kernel_rfl
theorem n16_14 (fr : Fr) (st : St) (k : Kt) : nextK gS fi16 (.loop c16_15 k) .normal fr st = evK gS fi16 c16_14 fr st k := rfl
set_option maxHeartbeats 8000000 in
theorem LS57 (l : List Int) (hl1 : l.length < 100000) (S : St) (R : Out × St)  
    (H : ∀  (T : List (Nat × E)) (X : List (Nat × List V)),evK gS fi16 c16_31 { ps := [(0,.val (.slice (intVs l))),(1,.val (.slice (intVs l))),(4,.val (.bool false)),(5,.val (.int .i64 l.length))],ts := T,lc := X } S .nil = some R) :
    ∀ (m q : Nat)  (T : List (Nat × E)) (X : List (Nat × List V)) ,q ≤ l.length → l.length - q = m → 
    evK gS fi16 c16_14 { ps := [(0,.val (.slice (intVs l))),(1,.val (.slice (intVs l))),(4,.val (.bool false)),(5,.val (.int .i64 (q : Nat)))],ts := T,lc := X } S (.blk 0 (.seq c16_31 .nil)) = some R := by
  intro m
  have hm : fi16.marks = [] := rfl
  have hl : fi16.locals = [] := rfl
  have hr : fi16.results = [.tmp 4] := rfl
  induction m with
  | zero =>
    intro q  T X  hq hm2 
    obtain rfl : q = l.length := by omega
    refine evK_loop c16_15 _ _ _ _ rfl ?_
    simp (config := { implicitDefEqProofs := false }) [-Int.natCast_add,-St.obj,-St.set,-Int.not_le,-Int.not_lt,-Nat.not_le,-Nat.not_lt,ty3,ty4,ty22,hm,hl,hr,E16,q16_24,n16_14]
    exact H  _ _ 
  | succ m ih =>
    intro q  T X  hq hm2 
    obtain ⟨x,hx⟩ : ∃ x,l[q]? = some x := ⟨l[q]'(by omega),List.getElem?_eq_getElem (by omega)⟩
    have hlt : (q : Int) < (l.length : Int) := by omega
    obtain ⟨hlt2,hxe⟩ := List.getElem?_eq_some_iff.1 hx
    have hw : IntKind.wrap .i64 ((q : Int) + 1) = ((q + 1 : Nat) : Int) := by rw [wrap64 (by omega) (by omega)]; omega
    have IH := fun T X => ih (q + 1) T X (by omega) (by omega)
    refine evK_loop c16_15 _ _ _ _ rfl ?_
    simp (config := { implicitDefEqProofs := false }) [-Int.natCast_add,hx,hxe,hlt,hlt2,hw,IH,-Int.not_le,-Int.not_lt,-Nat.not_le,-Nat.not_lt,ty3,ty4,ty22,hm,hl,hr,E16,q16_24,e16_31,n16_14]
set_option maxHeartbeats 8000000 in
theorem c16 (l : List Int) (hl1 : l.length < 100000) (S : St) : EvF gS 16 [.slice (intVs l),.slice (intVs l)] S = some (.ret (.bool true) none,S) := by
  refine EvF_start fi57_eq (fun x h => by cases h) m16 ?_
  rw [st16]
  have hm : fi16.marks = [] := rfl
  have hl : fi16.locals = [] := rfl
  have hr : fi16.results = [.tmp 4] := rfl
  generalize hR : (Out.ret (V.bool true) none,S) = R
  have H31 : ∀  (T : List (Nat × E)) (X : List (Nat × List V)),evK gS fi16 c16_31 { ps := [(0,.val (.slice (intVs l))),(1,.val (.slice (intVs l))),(4,.val (.bool false)),(5,.val (.int .i64 l.length))],ts := T,lc := X } S .nil = some R := by
    intro  T X 
    simp (config := { implicitDefEqProofs := false }) [-Int.natCast_add,← hR,-Int.not_le,-Int.not_lt,-Nat.not_le,-Nat.not_lt,ty3,ty4,ty22,hm,hl,hr,E16,q16_24,e16_31,n16_14]
  have LL := fun  T X  => LS57 l hl1 S R H31 l.length 0   T X  (Nat.zero_le _) rfl 
  rw [show ((0 : Nat) : Int) = 0 from rfl] at LL
  simp [LL,-Int.not_le,-Int.not_lt,-Nat.not_le,-Nat.not_lt,ty3,ty4,ty22,hm,hl,hr,E16,q16_24,e16_31,n16_14]
theorem k16 (l : List Int) (hl1 : l.length < 100000) (fr : Fr) (st : St) : callStep gS (EvF gS) 16 [.slice (intVs l),.slice (intVs l)] fr st = some (.ok (.val (.bool true)) fr st) :=
  call_pure rfl fi57_eq rfl (fun st => c16 l hl1 st) (by simp [V.flat])
theorem x16 : gS.ext 16 = none := rfl
theorem p16 : fi16.pure = true := rfl
def fi18 : FI := { body := codeOf Try.f18,ntmps := 25,results := [.tmp 4],pers := [0,1,4,5,6],locals := [],pure := true,marks := [1000000] }
theorem fi58_eq : gS.fn 18 = some fi18 := by kernel_rfl
theorem st18 (a0 a1 : V) : startFr fi18 [a0,a1] = { ps := [(0,.val a0),(1,.val a1),(4,.any),(5,.any),(6,.any)],ts := [],lc := [] } := rfl
def b18 : Code := mini (codeOf Try.f18)
def c18_12 : Code := .cond (.tmp 10) .skip (.exit 0)
def c18_10 : Code := .seq (codeN b18 267) c18_12
def c18_20 : Code := codeN b18 2635
def c18_19 : Code := .cond (.tmp 19) c18_20 .skip
def c18_17 : Code := .seq (codeN b18 1099) c18_19
def c18_22 : Code := codeN b18 459
def c18_15 : Code := .seq (.block 1 c18_17) c18_22
def c18_9 : Code := .seq c18_10 c18_15
def c18_8 : Code := .loop c18_9
def c18_7 : Code := .block 0 c18_8
def c18_5 : Code := .seq (codeN b18 19) c18_7
def c18_23 : Code := .seq (codeN b18 23) .ret
theorem e18_23 : evK gS fi18 c18_23 fr st k = opsR gS fi18 [mv 24 5 22,
 asn 4 24 22] fr st (.seq .ret k) := evK_rs 7 rfl (by kernel_rfl)
def c18_4 : Code := .seq c18_5 c18_23
def c18_2 : Code := .seq (codeN b18 5) c18_4
def c18_0 : Code := .seq (codeN b18 2) c18_2
theorem E18 : evK gS fi18 c18_12 fr st k = condK gS fi18 (fr.op (.tmp 10)).bool? .skip (.exit 0) fr st k ∧
 (evK gS fi18 c18_10 fr st k = opsR gS fi18 [mv 7 6 3,
 mv 8 0 34,
 len1 9 8 34 3,
 bop 10 .lss 3 7 9 3 4] fr st (.seq c18_12 k)) ∧
 (evK gS fi18 c18_20 fr st k = opsR gS fi18 [mv 20 5 22,
 mv 21 6 3,
 op1 22 (.buildSlice 22 1 #[(0,(.tmp 21))]) 22,
 op1 23 (.call { callee := (.builtin .append),args := #[(.tmp 20),(.tmp 22)],argTypes := #[22,22] }) 22,
 asn 5 23 22] fr st k) ∧
 evK gS fi18 c18_19 fr st k = condK gS fi18 (fr.op (.tmp 19)).bool? c18_20 .skip fr st k ∧
 (evK gS fi18 c18_17 fr st k = opsR gS fi18 [mv 13 0 34,
 mv 14 6 3,
 ixa 15 34 13 14 0,
 op1 16 (.fieldAddr 40 (.tmp 15) 0) 0,
 ld 17 29 16 29,
 mv 18 1 42,
 cal 19 56 [(.tmp 17),(.tmp 18)] [29,42] 4] fr st (.seq c18_19 k)) ∧
 (evK gS fi18 c18_22 fr st k = opsR gS fi18 [mv 11 6 3,
 op1 12 (.binOp .add 3 (.tmp 11) (.const (.int .i64 1)) 3) 3,
 asn 6 12 3] fr st k) ∧
 evK gS fi18 c18_15 fr st k = evK gS fi18 c18_17 fr st (.blk 1 (.seq c18_22 k)) ∧
 evK gS fi18 c18_9 fr st k = evK gS fi18 c18_10 fr st (.seq c18_15 k) ∧
 evK gS fi18 c18_7 fr st k = evK gS fi18 c18_8 fr st (.blk 0 k) ∧
 evK gS fi18 c18_5 fr st k = opsR gS fi18 [op1 6 (.assign (.const (.int .i64 0))) 3] fr st (.seq c18_7 k) ∧
 evK gS fi18 c18_4 fr st k = evK gS fi18 c18_5 fr st (.seq c18_23 k) ∧
 evK gS fi18 c18_2 fr st k = opsR gS fi18 [op1 5 (.assign (.const (.slice none 0 0))) 22] fr st (.seq c18_4 k) ∧
 evK gS fi18 c18_0 fr st k = opsR gS fi18 [op1 4 (.assign (.const (.slice none 0 0))) 22] fr st (.seq c18_2 k) := ⟨rfl,evK_rs 3 rfl (by kernel_rfl),evK_r 6 (by kernel_rfl),rfl,evK_rs 5 rfl (by kernel_rfl),evK_r 4 (by kernel_rfl),rfl,rfl,rfl,evK_rs 2 rfl (by kernel_rfl),rfl,evK_rs 1 rfl (by kernel_rfl),evK_rs 0 rfl (by kernel_rfl)⟩
theorem m18 : mini fi18.body = c18_0 := by kernel_rfl
theorem n18_8 (fr : Fr) (st : St) (k : Kt) : nextK gS fi18 (.loop c18_9 k) .normal fr st = evK gS fi18 c18_8 fr st k := rfl
set_option maxHeartbeats 8000000 in
theorem LM58x (g : List Grp) (hg : ∀ x ∈ g,POk x.filter ∧ x.clients.length < 1000) (hgl : g.length < 100000) (A : List Attr) (hA : A.length < 1000) (S : St) (R : Out × St)  (fin : List Int)
    (H : ∀  (T : List (Nat × E)) (X : List (Nat × List V)),evK gS fi18 c18_23 { ps := [(0,.val (.slice (encGrps g))),(1,.val (.slice (encAttrs A))),(4,.own 0 []),(5,.own (kof 1 fin) (intVs fin)),(6,.val (.int .i64 g.length))],ts := T,lc := X } S .nil = some R) :
    ∀ (m q : Nat) (out : List Int)  (T : List (Nat × E)) (X : List (Nat × List V)) ,q ≤ g.length → g.length - q = m → fin = matchG A q (g.drop q) out → out.length ≤ q →
    evK gS fi18 c18_8 { ps := [(0,.val (.slice (encGrps g))),(1,.val (.slice (encAttrs A))),(4,.own 0 []),(5,.own (kof 1 out) (intVs out)),(6,.val (.int .i64 (q : Nat)))],ts := T,lc := X } S (.blk 0 (.seq c18_23 .nil)) = some R := by
  intro m
  have hm : fi18.marks = [1000000] := rfl
  have hl : fi18.locals = [] := rfl
  have hr : fi18.results = [.tmp 4] := rfl
  induction m with
  | zero =>
    intro q out  T X  hq hm2 hf hol
    obtain rfl : q = g.length := by omega
    rw [List.drop_length] at hf
    have hf2 : fin = out := hf
    subst hf2
    refine evK_loop c18_9 _ _ _ _ rfl ?_
    rcases kof_or 1 fin with ⟨hk,rfl⟩ | hk
    · rw [hk,show intVs [] = [] from rfl] at H ⊢
      simp (config := { implicitDefEqProofs := false }) [-Int.natCast_add,-St.obj,-St.set,-Int.not_le,-Int.not_lt,-Nat.not_le,-Nat.not_lt,ty3,ty4,ty22,ty29,ty34,ty40,ty42,hm,hl,hr,E18,n18_8]
      exact H  _ _ 
    · rw [hk] at H ⊢
      simp (config := { implicitDefEqProofs := false }) [-Int.natCast_add,-St.obj,-St.set,-Int.not_le,-Int.not_lt,-Nat.not_le,-Nat.not_lt,ty3,ty4,ty22,ty29,ty34,ty40,ty42,hm,hl,hr,E18,n18_8]
      exact H  _ _ 
  | succ m ih =>
    intro q out  T X  hq hm2 hf hol
    obtain ⟨x,hx⟩ : ∃ x,g[q]? = some x := ⟨g[q]'(by omega),List.getElem?_eq_getElem (by omega)⟩
    have hlt : (q : Int) < (g.length : Int) := by omega
    obtain ⟨hlt2,hxe⟩ := List.getElem?_eq_some_iff.1 hx
    have hw : IntKind.wrap .i64 ((q : Int) + 1) = ((q + 1 : Nat) : Int) := by rw [wrap64 (by omega) (by omega)]; omega
    rw [drop_get hx,show matchG A q (x :: g.drop (q + 1)) out = matchG A (q + 1) (g.drop (q + 1)) (if ftakes x.filter A = true then out ++ [(q : Int)] else out) from rfl] at hf
    have hxg := hg x (List.mem_of_getElem? hx)
    have kk : ∀ (fr : Fr) (st : St),callStep gS (EvF gS) 56 [.slice (encPreds x.filter),.slice (encAttrs A)] fr st = some (.ok (.val (.bool (ftakes x.filter A))) fr st) := fun fr st => k56 x.filter A hxg.1 (by omega) fr st
    have hs1 := sizes_ints out
    have hs2 := ints_snoc out (q : Int)
    have b1 : (out.length + 1) * 8 ≤ 140737488355328 := by omega
    have b2 : out.length + 1 ≤ 140737488355328 := by omega
    generalize ftakes x.filter A = z at *
    refine evK_loop c18_9 _ _ _ _ rfl ?_
    cases z with
    | true =>
      rw [if_pos rfl] at hf
      have IH := fun T X => ih (q + 1) (out ++ [(q : Int)]) T X (by omega) (by omega) hf (by simp; omega)
      rw [kof_snoc] at IH
      rcases kof_or 1 out with ⟨hk,rfl⟩ | hk
      · have en1 : intVs ([] ++ [(q : Int)]) = [.int .i64 (q : Int)] := rfl
        rw [en1] at IH
        rw [hk,show intVs [] = [] from rfl]
        simp (config := { implicitDefEqProofs := false }) [-Int.natCast_add,hx,hxe,hlt,hlt2,hw,kk,IH,-Int.not_le,-Int.not_lt,-Nat.not_le,-Nat.not_lt,ty3,ty4,ty22,ty29,ty34,ty40,ty42,hm,hl,hr,E18,e18_23,n18_8]
      · rw [hk]
        simp (config := { implicitDefEqProofs := false }) [-Int.natCast_add,-List.append_assoc,hx,hxe,hlt,hlt2,hw,kk,hs1,hs2,b1,b2,IH,-Int.not_le,-Int.not_lt,-Nat.not_le,-Nat.not_lt,ty3,ty4,ty22,ty29,ty34,ty40,ty42,hm,hl,hr,E18,e18_23,n18_8]
    | false =>
      rw [if_neg (by simp)] at hf
      have IH := fun T X => ih (q + 1) out T X (by omega) (by omega) hf (by omega)
      rcases kof_or 1 out with ⟨hk,rfl⟩ | hk
      · rw [hk,show intVs [] = [] from rfl] at IH ⊢
        simp (config := { implicitDefEqProofs := false }) [-Int.natCast_add,hx,hxe,hlt,hlt2,hw,kk,IH,-Int.not_le,-Int.not_lt,-Nat.not_le,-Nat.not_lt,ty3,ty4,ty22,ty29,ty34,ty40,ty42,hm,hl,hr,E18,e18_23,n18_8]
      · rw [hk] at IH ⊢
        simp (config := { implicitDefEqProofs := false }) [-Int.natCast_add,hx,hxe,hlt,hlt2,hw,kk,IH,-Int.not_le,-Int.not_lt,-Nat.not_le,-Nat.not_lt,ty3,ty4,ty22,ty29,ty34,ty40,ty42,hm,hl,hr,E18,e18_23,n18_8]
set_option maxHeartbeats 8000000 in
theorem c18 (g : List Grp) (hg : ∀ x ∈ g,POk x.filter ∧ x.clients.length < 1000) (hgl : g.length < 100000) (A : List Attr) (hA : A.length < 1000) (S : St) : EvF gS 18 [.slice (encGrps g),.slice (encAttrs A)] S = some (.ret (.slice (intVs (gmatch g A))) none,S) := by
  refine EvF_start fi58_eq (fun x h => by cases h) m18 ?_
  rw [st18]
  have hm : fi18.marks = [1000000] := rfl
  have hl : fi18.locals = [] := rfl
  have hr : fi18.results = [.tmp 4] := rfl
  have hz := fun xs st => frz_slice (xs := intVs xs) (flats_ints xs) st
  have hz0 := hz [] S
  rw [show intVs [] = [] from rfl] at hz0
  show _ = some (Out.ret (V.slice (intVs (matchG A 0 g []))) none,S)
  generalize hK : matchG A 0 g [] = K
  generalize hR : (Out.ret (V.slice (intVs K)) none,S) = R
  have H23 : ∀  (T : List (Nat × E)) (X : List (Nat × List V)),evK gS fi18 c18_23 { ps := [(0,.val (.slice (encGrps g))),(1,.val (.slice (encAttrs A))),(4,.own 0 []),(5,.own (kof 1 K) (intVs K)),(6,.val (.int .i64 g.length))],ts := T,lc := X } S .nil = some R := by
    intro  T X 
    rcases kof_or 1 K with ⟨hk,rfl⟩ | hk
    · rw [hk,show intVs [] = [] from rfl]
      simp (config := { implicitDefEqProofs := false }) [-Int.natCast_add,hz0,← hR,show intVs [] = [] from rfl,-Int.not_le,-Int.not_lt,-Nat.not_le,-Nat.not_lt,ty3,ty4,ty22,ty29,ty34,ty40,ty42,hm,hl,hr,E18,e18_23,n18_8]
    · rw [hk]
      simp (config := { implicitDefEqProofs := false }) [-Int.natCast_add,hz,← hR,-Int.not_le,-Int.not_lt,-Nat.not_le,-Nat.not_lt,ty3,ty4,ty22,ty29,ty34,ty40,ty42,hm,hl,hr,E18,e18_23,n18_8]
  have LL := fun  T X  => LM58x g hg hgl A hA S R K H23 g.length 0 []  T X  (Nat.zero_le _) rfl (by rw [List.drop_zero]; exact hK.symm) (Nat.le_refl _)
  rw [show ((0 : Nat) : Int) = 0 from rfl] at LL
  rw [show kof 1 ([] : List Int) = 0 from rfl,show intVs [] = [] from rfl] at LL
  simp [LL,-Int.not_le,-Int.not_lt,-Nat.not_le,-Nat.not_lt,ty3,ty4,ty22,ty29,ty34,ty40,ty42,hm,hl,hr,E18,e18_23,n18_8]
theorem k18 (g : List Grp) (hg : ∀ x ∈ g,POk x.filter ∧ x.clients.length < 1000) (hgl : g.length < 100000) (A : List Attr) (hA : A.length < 1000) (fr : Fr) (st : St) : callStep gS (EvF gS) 18 [.slice (encGrps g),.slice (encAttrs A)] fr st = some (.ok (.val (.slice (intVs (gmatch g A)))) fr st) :=
  call_pure rfl fi58_eq rfl (fun st => c18 g hg hgl A hA st) (by simp [V.flat])
theorem x18 : gS.ext 18 = none := rfl
theorem p18 : fi18.pure = true := rfl
def fi25 : FI := { body := codeOf Try.f25,ntmps := 25,results := [.tmp 4],pers := [0,1,4,5,6],locals := [],pure := true,marks := [1000000] }
theorem fi65_eq : gS.fn 25 = some fi25 := by kernel_rfl
theorem st25 (a0 a1 : V) : startFr fi25 [a0,a1] = { ps := [(0,.val a0),(1,.val a1),(4,.any),(5,.any),(6,.any)],ts := [],lc := [] } := rfl
def b25 : Code := mini (codeOf Try.f25)
def c25_12 : Code := .cond (.tmp 10) .skip (.exit 0)
def c25_10 : Code := .seq (codeN b25 267) c25_12
def c25_20 : Code := codeN b25 2635
def c25_19 : Code := .cond (.tmp 19) c25_20 .skip
def c25_17 : Code := .seq (codeN b25 1099) c25_19
def c25_22 : Code := codeN b25 459
def c25_15 : Code := .seq (.block 1 c25_17) c25_22
def c25_9 : Code := .seq c25_10 c25_15
def c25_8 : Code := .loop c25_9
def c25_7 : Code := .block 0 c25_8
def c25_5 : Code := .seq (codeN b25 19) c25_7
def c25_23 : Code := .seq (codeN b25 23) .ret
theorem e25_23 : evK gS fi25 c25_23 fr st k = opsR gS fi25 [mv 24 5 22,
 asn 4 24 22] fr st (.seq .ret k) := evK_rs 7 rfl (by kernel_rfl)
def c25_4 : Code := .seq c25_5 c25_23
def c25_2 : Code := .seq (codeN b25 5) c25_4
def c25_0 : Code := .seq (codeN b25 2) c25_2
theorem E25 : evK gS fi25 c25_12 fr st k = condK gS fi25 (fr.op (.tmp 10)).bool? .skip (.exit 0) fr st k ∧
 (evK gS fi25 c25_10 fr st k = opsR gS fi25 [mv 7 6 3,
 mv 8 0 34,
 len1 9 8 34 3,
 bop 10 .lss 3 7 9 3 4] fr st (.seq c25_12 k)) ∧
 (evK gS fi25 c25_20 fr st k = opsR gS fi25 [mv 20 5 22,
 mv 21 6 3,
 op1 22 (.buildSlice 22 1 #[(0,(.tmp 21))]) 22,
 op1 23 (.call { callee := (.builtin .append),args := #[(.tmp 20),(.tmp 22)],argTypes := #[22,22] }) 22,
 asn 5 23 22] fr st k) ∧
 evK gS fi25 c25_19 fr st k = condK gS fi25 (fr.op (.tmp 19)).bool? c25_20 .skip fr st k ∧
 (evK gS fi25 c25_17 fr st k = opsR gS fi25 [mv 13 0 34,
 mv 14 6 3,
 ixa 15 34 13 14 0,
 op1 16 (.fieldAddr 40 (.tmp 15) 1) 0,
 ld 17 22 16 22,
 mv 18 1 3,
 cal 19 58 [(.tmp 17),(.tmp 18)] [22,3] 4] fr st (.seq c25_19 k)) ∧
 (evK gS fi25 c25_22 fr st k = opsR gS fi25 [mv 11 6 3,
 op1 12 (.binOp .add 3 (.tmp 11) (.const (.int .i64 1)) 3) 3,
 asn 6 12 3] fr st k) ∧
 evK gS fi25 c25_15 fr st k = evK gS fi25 c25_17 fr st (.blk 1 (.seq c25_22 k)) ∧
 evK gS fi25 c25_9 fr st k = evK gS fi25 c25_10 fr st (.seq c25_15 k) ∧
 evK gS fi25 c25_7 fr st k = evK gS fi25 c25_8 fr st (.blk 0 k) ∧
 evK gS fi25 c25_5 fr st k = opsR gS fi25 [op1 6 (.assign (.const (.int .i64 0))) 3] fr st (.seq c25_7 k) ∧
 evK gS fi25 c25_4 fr st k = evK gS fi25 c25_5 fr st (.seq c25_23 k) ∧
 evK gS fi25 c25_2 fr st k = opsR gS fi25 [op1 5 (.assign (.const (.slice none 0 0))) 22] fr st (.seq c25_4 k) ∧
 evK gS fi25 c25_0 fr st k = opsR gS fi25 [op1 4 (.assign (.const (.slice none 0 0))) 22] fr st (.seq c25_2 k) := ⟨rfl,evK_rs 3 rfl (by kernel_rfl),evK_r 6 (by kernel_rfl),rfl,evK_rs 5 rfl (by kernel_rfl),evK_r 4 (by kernel_rfl),rfl,rfl,rfl,evK_rs 2 rfl (by kernel_rfl),rfl,evK_rs 1 rfl (by kernel_rfl),evK_rs 0 rfl (by kernel_rfl)⟩
theorem m25 : mini fi25.body = c25_0 := by kernel_rfl
theorem n25_8 (fr : Fr) (st : St) (k : Kt) : nextK gS fi25 (.loop c25_9 k) .normal fr st = evK gS fi25 c25_8 fr st k := rfl
set_option maxHeartbeats 8000000 in
theorem LM65x (g : List Grp) (hg : ∀ x ∈ g,POk x.filter ∧ x.clients.length < 1000) (hgl : g.length < 100000) (c0 : Int) (S : St) (R : Out × St)  (fin : List Int)
    (H : ∀  (T : List (Nat × E)) (X : List (Nat × List V)),evK gS fi25 c25_23 { ps := [(0,.val (.slice (encGrps g))),(1,.val (.int .i64 c0)),(4,.own 0 []),(5,.own (kof 1 fin) (intVs fin)),(6,.val (.int .i64 g.length))],ts := T,lc := X } S .nil = some R) :
    ∀ (m q : Nat) (out : List Int)  (T : List (Nat × E)) (X : List (Nat × List V)) ,q ≤ g.length → g.length - q = m → fin = mineG c0 q (g.drop q) out → out.length ≤ q →
    evK gS fi25 c25_8 { ps := [(0,.val (.slice (encGrps g))),(1,.val (.int .i64 c0)),(4,.own 0 []),(5,.own (kof 1 out) (intVs out)),(6,.val (.int .i64 (q : Nat)))],ts := T,lc := X } S (.blk 0 (.seq c25_23 .nil)) = some R := by
  intro m
  have hm : fi25.marks = [1000000] := rfl
  have hl : fi25.locals = [] := rfl
  have hr : fi25.results = [.tmp 4] := rfl
  induction m with
  | zero =>
    intro q out  T X  hq hm2 hf hol
    obtain rfl : q = g.length := by omega
    rw [List.drop_length] at hf
    have hf2 : fin = out := hf
    subst hf2
    refine evK_loop c25_9 _ _ _ _ rfl ?_
    rcases kof_or 1 fin with ⟨hk,rfl⟩ | hk
    · rw [hk,show intVs [] = [] from rfl] at H ⊢
      simp (config := { implicitDefEqProofs := false }) [-Int.natCast_add,-St.obj,-St.set,-Int.not_le,-Int.not_lt,-Nat.not_le,-Nat.not_lt,ty3,ty4,ty22,ty34,ty40,hm,hl,hr,E25,n25_8]
      exact H  _ _ 
    · rw [hk] at H ⊢
      simp (config := { implicitDefEqProofs := false }) [-Int.natCast_add,-St.obj,-St.set,-Int.not_le,-Int.not_lt,-Nat.not_le,-Nat.not_lt,ty3,ty4,ty22,ty34,ty40,hm,hl,hr,E25,n25_8]
      exact H  _ _ 
  | succ m ih =>
    intro q out  T X  hq hm2 hf hol
    obtain ⟨x,hx⟩ : ∃ x,g[q]? = some x := ⟨g[q]'(by omega),List.getElem?_eq_getElem (by omega)⟩
    have hlt : (q : Int) < (g.length : Int) := by omega
    obtain ⟨hlt2,hxe⟩ := List.getElem?_eq_some_iff.1 hx
    have hw : IntKind.wrap .i64 ((q : Int) + 1) = ((q + 1 : Nat) : Int) := by rw [wrap64 (by omega) (by omega)]; omega
    rw [drop_get hx,show mineG c0 q (x :: g.drop (q + 1)) out = mineG c0 (q + 1) (g.drop (q + 1)) (if hasI x.clients c0 = true then out ++ [(q : Int)] else out) from rfl] at hf
    have hxg := hg x (List.mem_of_getElem? hx)
    have kk : ∀ (fr : Fr) (st : St),callStep gS (EvF gS) 58 [.slice (intVs x.clients),.int .i64 c0] fr st = some (.ok (.val (.bool (hasI x.clients c0))) fr st) := fun fr st => k58 x.clients c0 (by have := hxg.2; omega) fr st
    have hs1 := sizes_ints out
    have hs2 := ints_snoc out (q : Int)
    have b1 : (out.length + 1) * 8 ≤ 140737488355328 := by omega
    have b2 : out.length + 1 ≤ 140737488355328 := by omega
    generalize hasI x.clients c0 = z at *
    refine evK_loop c25_9 _ _ _ _ rfl ?_
    cases z with
    | true =>
      rw [if_pos rfl] at hf
      have IH := fun T X => ih (q + 1) (out ++ [(q : Int)]) T X (by omega) (by omega) hf (by simp; omega)
      rw [kof_snoc] at IH
      rcases kof_or 1 out with ⟨hk,rfl⟩ | hk
      · have en1 : intVs ([] ++ [(q : Int)]) = [.int .i64 (q : Int)] := rfl
        rw [en1] at IH
        rw [hk,show intVs [] = [] from rfl]
        simp (config := { implicitDefEqProofs := false }) [-Int.natCast_add,hx,hxe,hlt,hlt2,hw,kk,IH,-Int.not_le,-Int.not_lt,-Nat.not_le,-Nat.not_lt,ty3,ty4,ty22,ty34,ty40,hm,hl,hr,E25,e25_23,n25_8]
      · rw [hk]
        simp (config := { implicitDefEqProofs := false }) [-Int.natCast_add,-List.append_assoc,hx,hxe,hlt,hlt2,hw,kk,hs1,hs2,b1,b2,IH,-Int.not_le,-Int.not_lt,-Nat.not_le,-Nat.not_lt,ty3,ty4,ty22,ty34,ty40,hm,hl,hr,E25,e25_23,n25_8]
    | false =>
      rw [if_neg (by simp)] at hf
      have IH := fun T X => ih (q + 1) out T X (by omega) (by omega) hf (by omega)
      rcases kof_or 1 out with ⟨hk,rfl⟩ | hk
      · rw [hk,show intVs [] = [] from rfl] at IH ⊢
        simp (config := { implicitDefEqProofs := false }) [-Int.natCast_add,hx,hxe,hlt,hlt2,hw,kk,IH,-Int.not_le,-Int.not_lt,-Nat.not_le,-Nat.not_lt,ty3,ty4,ty22,ty34,ty40,hm,hl,hr,E25,e25_23,n25_8]
      · rw [hk] at IH ⊢
        simp (config := { implicitDefEqProofs := false }) [-Int.natCast_add,hx,hxe,hlt,hlt2,hw,kk,IH,-Int.not_le,-Int.not_lt,-Nat.not_le,-Nat.not_lt,ty3,ty4,ty22,ty34,ty40,hm,hl,hr,E25,e25_23,n25_8]
set_option maxHeartbeats 8000000 in
theorem c25 (g : List Grp) (hg : ∀ x ∈ g,POk x.filter ∧ x.clients.length < 1000) (hgl : g.length < 100000) (c0 : Int) (S : St) : EvF gS 25 [.slice (encGrps g),.int .i64 c0] S = some (.ret (.slice (intVs (gmine g c0))) none,S) := by
  refine EvF_start fi65_eq (fun x h => by cases h) m25 ?_
  rw [st25]
  have hm : fi25.marks = [1000000] := rfl
  have hl : fi25.locals = [] := rfl
  have hr : fi25.results = [.tmp 4] := rfl
  have hz := fun xs st => frz_slice (xs := intVs xs) (flats_ints xs) st
  have hz0 := hz [] S
  rw [show intVs [] = [] from rfl] at hz0
  show _ = some (Out.ret (V.slice (intVs (mineG c0 0 g []))) none,S)
  generalize hK : mineG c0 0 g [] = K
  generalize hR : (Out.ret (V.slice (intVs K)) none,S) = R
  have H23 : ∀  (T : List (Nat × E)) (X : List (Nat × List V)),evK gS fi25 c25_23 { ps := [(0,.val (.slice (encGrps g))),(1,.val (.int .i64 c0)),(4,.own 0 []),(5,.own (kof 1 K) (intVs K)),(6,.val (.int .i64 g.length))],ts := T,lc := X } S .nil = some R := by
    intro  T X 
    rcases kof_or 1 K with ⟨hk,rfl⟩ | hk
    · rw [hk,show intVs [] = [] from rfl]
      simp (config := { implicitDefEqProofs := false }) [-Int.natCast_add,hz0,← hR,show intVs [] = [] from rfl,-Int.not_le,-Int.not_lt,-Nat.not_le,-Nat.not_lt,ty3,ty4,ty22,ty34,ty40,hm,hl,hr,E25,e25_23,n25_8]
    · rw [hk]
      simp (config := { implicitDefEqProofs := false }) [-Int.natCast_add,hz,← hR,-Int.not_le,-Int.not_lt,-Nat.not_le,-Nat.not_lt,ty3,ty4,ty22,ty34,ty40,hm,hl,hr,E25,e25_23,n25_8]
  have LL := fun  T X  => LM65x g hg hgl c0 S R K H23 g.length 0 []  T X  (Nat.zero_le _) rfl (by rw [List.drop_zero]; exact hK.symm) (Nat.le_refl _)
  rw [show ((0 : Nat) : Int) = 0 from rfl] at LL
  rw [show kof 1 ([] : List Int) = 0 from rfl,show intVs [] = [] from rfl] at LL
  simp [LL,-Int.not_le,-Int.not_lt,-Nat.not_le,-Nat.not_lt,ty3,ty4,ty22,ty34,ty40,hm,hl,hr,E25,e25_23,n25_8]
theorem k25 (g : List Grp) (hg : ∀ x ∈ g,POk x.filter ∧ x.clients.length < 1000) (hgl : g.length < 100000) (c0 : Int) (fr : Fr) (st : St) : callStep gS (EvF gS) 25 [.slice (encGrps g),.int .i64 c0] fr st = some (.ok (.val (.slice (intVs (gmine g c0)))) fr st) :=
  call_pure rfl fi65_eq rfl (fun st => c25 g hg hgl c0 st) (by simp [V.flat])
theorem x25 : gS.ext 25 = none := rfl
theorem p25 : fi25.pure = true := rfl
def fi21 : FI := { body := codeOf Try.f21,ntmps := 55,results := [.tmp 4],pers := [0,1,4,5,6,7],locals := [],pure := true,marks := [1000000] }
theorem fi61_eq : gS.fn 21 = some fi21 := by kernel_rfl
theorem st21 (a0 a1 : V) : startFr fi21 [a0,a1] = { ps := [(0,.val a0),(1,.val a1),(4,.any),(5,.any),(6,.any),(7,.any)],ts := [],lc := [] } := rfl
def b21 : Code := mini (codeOf Try.f21)
def c21_12 : Code := .cond (.tmp 11) .skip (.exit 0)
def c21_10 : Code := .seq (codeN b21 267) c21_12
def c21_20 : Code := .cond (.tmp 27) (.exit 1) .skip
def c21_18 : Code := .seq (codeN b21 2123) c21_20
def c21_30 : Code := .cond (.tmp 38) .skip (.exit 2)
def c21_28 : Code := .seq (codeN b21 34379) c21_30
def c21_35 : Code := codeN b21 75339
def c21_36 : Code := codeN b21 58955
def c21_33 : Code := .seq (.block 3 c21_35) c21_36
def c21_27 : Code := .seq c21_28 c21_33
def c21_26 : Code := .loop c21_27
def c21_25 : Code := .block 2 c21_26
def c21_23 : Code := .seq (codeN b21 2635) c21_25
def c21_17 : Code := .seq c21_18 c21_23
def c21_37 : Code := codeN b21 459
theorem e21_37 : evK gS fi21 c21_37 fr st k = opsR gS fi21 [mv 12 6 3,
 op1 13 (.binOp .add 3 (.tmp 12) (.const (.int .i64 1)) 3) 3,
 asn 6 13 3] fr st k := evK_r 4 (by kernel_rfl)
def c21_15 : Code := .seq (.block 1 c21_17) c21_37
def c21_9 : Code := .seq c21_10 c21_15
def c21_8 : Code := .loop c21_9
def c21_7 : Code := .block 0 c21_8
def c21_5 : Code := .seq (codeN b21 19) c21_7
def c21_38 : Code := .seq (codeN b21 23) .ret
theorem e21_38 : evK gS fi21 c21_38 fr st k = opsR gS fi21 [mv 54 5 22,
 asn 4 54 22] fr st (.seq .ret k) := evK_rs 10 rfl (by kernel_rfl)
def c21_4 : Code := .seq c21_5 c21_38
def c21_2 : Code := .seq (codeN b21 5) c21_4
def c21_0 : Code := .seq (codeN b21 2) c21_2
theorem E21 : evK gS fi21 c21_12 fr st k = condK gS fi21 (fr.op (.tmp 11)).bool? .skip (.exit 0) fr st k ∧
 (evK gS fi21 c21_10 fr st k = opsR gS fi21 [mv 8 6 3,
 mv 9 1 22,
 len1 10 9 22 3,
 bop 11 .lss 3 8 10 3 4] fr st (.seq c21_12 k)) ∧
 evK gS fi21 c21_20 fr st k = condK gS fi21 (fr.op (.tmp 27)).bool? (.exit 1) .skip fr st k ∧
 (evK gS fi21 c21_18 fr st k = opsR gS fi21 [mv 14 1 22,
 mv 15 6 3,
 ixa 16 22 14 15 0,
 ld 17 3 16 3,
 op1 18 (.binOp .lss 3 (.tmp 17) (.const (.int .i64 0)) 3) 4,
 mv 19 18 4,
 mk (some 20) (.move (.tmp 1)) 22 (some (5,false)),
 mk (some 21) (.move (.tmp 6)) 3 (some (5,false)),
 mk (some 22) (.indexAddr 22 (.tmp 20) (.tmp 21)) 0 (some (5,false)),
 mk (some 23) (.load 3 (.tmp 22)) 3 (some (5,false)),
 mk (some 24) (.move (.tmp 0)) 34 (some (5,false)),
 mk (some 25) (.call { callee := (.builtin .len),args := #[(.tmp 24)],argTypes := #[34] }) 3 (some (5,false)),
 mk (some 26) (.binOp .geq 3 (.tmp 23) (.tmp 25) 3) 4 (some (5,false)),
 op1 27 (.pick (.tmp 19) (.const (.bool true)) (.tmp 26)) 4] fr st (.seq c21_20 k)) ∧
 evK gS fi21 c21_30 fr st k = condK gS fi21 (fr.op (.tmp 38)).bool? .skip (.exit 2) fr st k ∧
 (evK gS fi21 c21_28 fr st k = opsR gS fi21 [mv 28 7 3,
 mv 29 0 34,
 mv 30 1 22,
 mv 31 6 3,
 ixa 32 22 30 31 0,
 ld 33 3 32 3,
 ixa 34 34 29 33 0,
 op1 35 (.fieldAddr 40 (.tmp 34) 1) 0,
 ld 36 22 35 22,
 len1 37 36 22 3,
 bop 38 .lss 3 28 37 3 4] fr st (.seq c21_30 k)) ∧
 (evK gS fi21 c21_35 fr st k = opsR gS fi21 [mv 41 5 22,
 mv 42 0 34,
 mv 43 1 22,
 mv 44 6 3,
 ixa 45 22 43 44 0,
 ld 46 3 45 3,
 ixa 47 34 42 46 0,
 op1 48 (.fieldAddr 40 (.tmp 47) 1) 0,
 ld 49 22 48 22,
 mv 50 7 3,
 ixa 51 22 49 50 0,
 ld 52 3 51 3,
 cal 53 52 [(.tmp 41),(.tmp 52)] [22,3] 22,
 asn 5 53 22] fr st k) ∧
 (evK gS fi21 c21_36 fr st k = opsR gS fi21 [mv 39 7 3,
 op1 40 (.binOp .add 3 (.tmp 39) (.const (.int .i64 1)) 3) 3,
 asn 7 40 3] fr st k) ∧
 evK gS fi21 c21_33 fr st k = evK gS fi21 c21_35 fr st (.blk 3 (.seq c21_36 k)) ∧
 evK gS fi21 c21_27 fr st k = evK gS fi21 c21_28 fr st (.seq c21_33 k) ∧
 evK gS fi21 c21_25 fr st k = evK gS fi21 c21_26 fr st (.blk 2 k) ∧
 evK gS fi21 c21_23 fr st k = opsR gS fi21 [op1 7 (.assign (.const (.int .i64 0))) 3] fr st (.seq c21_25 k) ∧
 evK gS fi21 c21_17 fr st k = evK gS fi21 c21_18 fr st (.seq c21_23 k) ∧
 evK gS fi21 c21_15 fr st k = evK gS fi21 c21_17 fr st (.blk 1 (.seq c21_37 k)) ∧
 evK gS fi21 c21_9 fr st k = evK gS fi21 c21_10 fr st (.seq c21_15 k) ∧
 evK gS fi21 c21_7 fr st k = evK gS fi21 c21_8 fr st (.blk 0 k) ∧
 evK gS fi21 c21_5 fr st k = opsR gS fi21 [op1 6 (.assign (.const (.int .i64 0))) 3] fr st (.seq c21_7 k) ∧
 evK gS fi21 c21_4 fr st k = evK gS fi21 c21_5 fr st (.seq c21_38 k) ∧
 evK gS fi21 c21_2 fr st k = opsR gS fi21 [op1 5 (.assign (.const (.slice none 0 0))) 22] fr st (.seq c21_4 k) ∧
 evK gS fi21 c21_0 fr st k = opsR gS fi21 [op1 4 (.assign (.const (.slice none 0 0))) 22] fr st (.seq c21_2 k) := ⟨rfl,evK_rs 3 rfl (by kernel_rfl),rfl,evK_rs 5 rfl (by kernel_rfl),rfl,evK_rs 7 rfl (by kernel_rfl),evK_r 9 (by kernel_rfl),evK_r 8 (by kernel_rfl),rfl,rfl,rfl,evK_rs 6 rfl (by kernel_rfl),rfl,rfl,rfl,rfl,evK_rs 2 rfl (by kernel_rfl),rfl,evK_rs 1 rfl (by kernel_rfl),evK_rs 0 rfl (by kernel_rfl)⟩
theorem m21 : mini fi21.body = c21_0 := by kernel_rfl
theorem n21_26 (fr : Fr) (st : St) (k : Kt) : nextK gS fi21 (.loop c21_27 k) .normal fr st = evK gS fi21 c21_26 fr st k := rfl
theorem n21_8 (fr : Fr) (st : St) (k : Kt) : nextK gS fi21 (.loop c21_9 k) .normal fr st = evK gS fi21 c21_8 fr st k := rfl
set_option maxHeartbeats 8000000 in
theorem LR1 (g : List Grp) (hg : ∀ x ∈ g,x.clients.length < 1000) (hgl : g.length < 100000) (ms : List Int) (hms : ms.length ≤ 50) (S : St) (R : Out × St) (io k : Nat) (hk0 : ms[io]? = some (k : Int)) (v : Grp) (hv : g[k]? = some v) (fin : List Int)
    (H : ∀  (T : List (Nat × E)) (X : List (Nat × List V)),evK gS fi21 c21_37 { ps := [(0,.val (.slice (encGrps g))),(1,.val (.slice (intVs ms))),(4,.own 0 []),(5,oE fin),(6,.val (.int .i64 (io : Nat))),(7,.val (.int .i64 v.clients.length))],ts := T,lc := X } S (.loop c21_9 (.blk 0 (.seq c21_38 .nil))) = some R) :
    ∀ (m q : Nat) (out : List Int)  (T : List (Nat × E)) (X : List (Nat × List V)) ,q ≤ v.clients.length → v.clients.length - q = m → fin = (v.clients.drop q).foldl (layI) out → rising out → out.length ≤ 1000 * io + q →
    evK gS fi21 c21_26 { ps := [(0,.val (.slice (encGrps g))),(1,.val (.slice (intVs ms))),(4,.own 0 []),(5,oE out),(6,.val (.int .i64 (io : Nat))),(7,.val (.int .i64 (q : Nat)))],ts := T,lc := X } S (.blk 2 (.blk 1 (.seq c21_37 (.loop c21_9 (.blk 0 (.seq c21_38 .nil)))))) = some R := by
  intro m
  have hm : fi21.marks = [1000000] := rfl
  have hl : fi21.locals = [] := rfl
  have hr : fi21.results = [.tmp 4] := rfl
  obtain ⟨k1,k2⟩ := List.getElem?_eq_some_iff.1 hk0
  have k3 : (io : Int) < (ms.length : Int) := by omega
  obtain ⟨v1,v2⟩ := List.getElem?_eq_some_iff.1 hv
  have v3 : (k : Int) < (g.length : Int) := by omega
  have hvl := hg v (List.mem_of_getElem? hv)
  induction m with
  | zero =>
    intro q out  T X  hq hm2 hf hri hol
    obtain rfl : q = v.clients.length := by omega
    rw [List.drop_length] at hf
    simp only [List.foldl_nil] at hf
    subst hf
    refine evK_loop c21_27 _ _ _ _ rfl ?_
    rcases oE_or fin with ⟨hk,rfl⟩ | hk
    · rw [hk] at H ⊢
      simp (config := { implicitDefEqProofs := false }) [-Int.natCast_add,-St.obj,-St.set,hk0,k1,k2,k3,hv,v1,v2,v3,-Int.not_le,-Int.not_lt,-Nat.not_le,-Nat.not_lt,ty3,ty4,ty22,ty34,ty40,hm,hl,hr,E21,e21_38,n21_26,n21_8]
      exact H  _ _
    · rw [hk] at H ⊢
      simp (config := { implicitDefEqProofs := false }) [-Int.natCast_add,-St.obj,-St.set,hk0,k1,k2,k3,hv,v1,v2,v3,-Int.not_le,-Int.not_lt,-Nat.not_le,-Nat.not_lt,ty3,ty4,ty22,ty34,ty40,hm,hl,hr,E21,e21_38,n21_26,n21_8]
      exact H  _ _
  | succ m ih =>
    intro q out  T X  hq hm2 hf hri hol
    obtain ⟨x,hx⟩ : ∃ x,v.clients[q]? = some x := ⟨v.clients[q]'(by omega),List.getElem?_eq_getElem (by omega)⟩
    have hlt : (q : Int) < (v.clients.length : Int) := by omega
    obtain ⟨hlt2,hxe⟩ := List.getElem?_eq_some_iff.1 hx
    have hw : IntKind.wrap .i64 ((q : Int) + 1) = ((q + 1 : Nat) : Int) := by rw [wrap64 (by omega) (by omega)]; omega
    rw [drop_get hx,List.foldl_cons] at hf
    have hll := layI_len out x
    have kk := fun fr st => k52 out (by omega) hri x fr st
    have IH := fun T X => ih (q + 1) (layI out x) T X (by omega) (by omega) hf (layI_rising hri) (by omega)
    rw [oE_lay] at IH
    refine evK_loop c21_27 _ _ _ _ rfl ?_
    rcases oE_or out with ⟨hk,rfl⟩ | hk
    · rw [show intVs [] = [] from rfl] at kk
      rw [hk]
      simp (config := { implicitDefEqProofs := false }) [-Int.natCast_add,hx,hxe,hlt,hlt2,hw,hk0,k1,k2,k3,hv,v1,v2,v3,kk,IH,-Int.not_le,-Int.not_lt,-Nat.not_le,-Nat.not_lt,ty3,ty4,ty22,ty34,ty40,hm,hl,hr,E21,e21_37,e21_38,n21_26,n21_8]
    · rw [hk]
      simp (config := { implicitDefEqProofs := false }) [-Int.natCast_add,hx,hxe,hlt,hlt2,hw,hk0,k1,k2,k3,hv,v1,v2,v3,kk,IH,-Int.not_le,-Int.not_lt,-Nat.not_le,-Nat.not_lt,ty3,ty4,ty22,ty34,ty40,hm,hl,hr,E21,e21_37,e21_38,n21_26,n21_8]
set_option maxHeartbeats 8000000 in
theorem LR2 (g : List Grp) (hg : ∀ x ∈ g,x.clients.length < 1000) (hgl : g.length < 100000) (ms : List Int) (hms : ms.length ≤ 50) (S : St) (R : Out × St)  (fin : List Int)
    (H : ∀ (e7 : E) (T : List (Nat × E)) (X : List (Nat × List V)),e7.Tame → evK gS fi21 c21_38 { ps := [(0,.val (.slice (encGrps g))),(1,.val (.slice (intVs ms))),(4,.own 0 []),(5,oE fin),(6,.val (.int .i64 ms.length)),(7,e7)],ts := T,lc := X } S .nil = some R) :
    ∀ (m q : Nat) (out : List Int) (e7 : E) (T : List (Nat × E)) (X : List (Nat × List V)) (h7 : e7.Tame),q ≤ ms.length → ms.length - q = m → fin = (ms.drop q).foldl (rdStep g) out → rising out → out.length ≤ 1000 * q →
    evK gS fi21 c21_8 { ps := [(0,.val (.slice (encGrps g))),(1,.val (.slice (intVs ms))),(4,.own 0 []),(5,oE out),(6,.val (.int .i64 (q : Nat))),(7,e7)],ts := T,lc := X } S (.blk 0 (.seq c21_38 .nil)) = some R := by
  intro m
  have hm : fi21.marks = [1000000] := rfl
  have hl : fi21.locals = [] := rfl
  have hr : fi21.results = [.tmp 4] := rfl
  induction m with
  | zero =>
    intro q out e7 T X h7 hq hm2 hf hri hol
    obtain rfl : q = ms.length := by omega
    rw [List.drop_length] at hf
    simp only [List.foldl_nil] at hf
    subst hf
    refine evK_loop c21_9 _ _ _ _ rfl ?_
    rcases oE_or fin with ⟨hk,rfl⟩ | hk
    · rw [hk] at H ⊢
      simp (config := { implicitDefEqProofs := false }) [-Int.natCast_add,-St.obj,-St.set,h7,-Int.not_le,-Int.not_lt,-Nat.not_le,-Nat.not_lt,ty3,ty4,ty22,ty34,ty40,hm,hl,hr,E21,e21_37,n21_26,n21_8]
      exact H _ _ _ h7
    · rw [hk] at H ⊢
      simp (config := { implicitDefEqProofs := false }) [-Int.natCast_add,-St.obj,-St.set,h7,-Int.not_le,-Int.not_lt,-Nat.not_le,-Nat.not_lt,ty3,ty4,ty22,ty34,ty40,hm,hl,hr,E21,e21_37,n21_26,n21_8]
      exact H _ _ _ h7
  | succ m ih =>
    intro q out e7 T X h7 hq hm2 hf hri hol
    obtain ⟨x,hx⟩ : ∃ x,ms[q]? = some x := ⟨ms[q]'(by omega),List.getElem?_eq_getElem (by omega)⟩
    have hlt : (q : Int) < (ms.length : Int) := by omega
    obtain ⟨hlt2,hxe⟩ := List.getElem?_eq_some_iff.1 hx
    have hw : IntKind.wrap .i64 ((q : Int) + 1) = ((q + 1 : Nat) : Int) := by rw [wrap64 (by omega) (by omega)]; omega
    rw [drop_get hx,List.foldl_cons] at hf
    by_cases hx0 : x < 0
    · rw [show rdStep g out x = out from by unfold rdStep; rw [if_pos (.inl hx0)]] at hf
      have IH := fun e7 T X h7 => ih (q + 1) out e7 T X h7 (by omega) (by omega) hf hri (by omega)
      refine evK_loop c21_9 _ _ _ _ rfl ?_
      rcases oE_or out with ⟨hk,hkn⟩ | hk
      · rw [hk] at IH ⊢
        simp (config := { implicitDefEqProofs := false }) [-Int.natCast_add,h7,hx,hxe,hlt,hlt2,hw,hx0,-Int.not_le,-Int.not_lt,-Nat.not_le,-Nat.not_lt,ty3,ty4,ty22,ty34,ty40,hm,hl,hr,E21,e21_37,e21_38,n21_26,n21_8]
        exact IH _ _ _ h7
      · rw [hk] at IH ⊢
        simp (config := { implicitDefEqProofs := false }) [-Int.natCast_add,h7,hx,hxe,hlt,hlt2,hw,hx0,-Int.not_le,-Int.not_lt,-Nat.not_le,-Nat.not_lt,ty3,ty4,ty22,ty34,ty40,hm,hl,hr,E21,e21_37,e21_38,n21_26,n21_8]
        exact IH _ _ _ h7
    · obtain ⟨k,rfl⟩ : ∃ k : Nat,x = (k : Int) := ⟨x.toNat,by omega⟩
      by_cases hk : k < g.length
      · obtain ⟨v,hv⟩ : ∃ y,g[k]? = some y := ⟨g[k]'hk,List.getElem?_eq_getElem hk⟩
        have hvl := hg v (List.mem_of_getElem? hv)
        rw [show rdStep g out (k : Int) = v.clients.foldl layI out from by unfold rdStep; rw [if_neg (by omega),Int.toNat_natCast,hv]; rfl] at hf
        have hfl := lay_fold_le v.clients out
        have hfr := lay_fold_rising v.clients out hri
        have IH := fun e7 T X h7 => ih (q + 1) (v.clients.foldl layI out) e7 T X h7 (by omega) (by omega) hf hfr (by omega)
        have H37 : ∀  (T : List (Nat × E)) (X : List (Nat × List V)),evK gS fi21 c21_37 { ps := [(0,.val (.slice (encGrps g))),(1,.val (.slice (intVs ms))),(4,.own 0 []),(5,(oE (v.clients.foldl layI out))),(6,.val (.int .i64 (q : Nat))),(7,.val (.int .i64 (v.clients.length : Nat)))],ts := T,lc := X } S (.loop c21_9 (.blk 0 (.seq c21_38 .nil))) = some R := by
          intro  T X 
          rcases oE_or (v.clients.foldl layI out) with ⟨hk,hkn⟩ | hk
          · rw [hk] at IH ⊢
            simp (config := { implicitDefEqProofs := false }) [-Int.natCast_add,hw,-Int.not_le,-Int.not_lt,-Nat.not_le,-Nat.not_lt,ty3,ty4,ty22,ty34,ty40,hm,hl,hr,E21,e21_37,e21_38,n21_26,n21_8]
            exact IH _ _ _ (tame_val _)
          · rw [hk] at IH ⊢
            simp (config := { implicitDefEqProofs := false }) [-Int.natCast_add,hw,-Int.not_le,-Int.not_lt,-Nat.not_le,-Nat.not_lt,ty3,ty4,ty22,ty34,ty40,hm,hl,hr,E21,e21_37,e21_38,n21_26,n21_8]
            exact IH _ _ _ (tame_val _)
        have LL := fun T X => LR1 g hg hgl ms hms S R q k hx v hv (v.clients.foldl layI out) H37 v.clients.length 0 out T X (Nat.zero_le _) rfl (by rw [List.drop_zero]) hri (by omega)
        rw [show ((0 : Nat) : Int) = 0 from rfl] at LL
        have hk1 : ¬ ((g.length : Int) ≤ (k : Int)) := by omega
        have hk2 : ¬ (g.length ≤ k) := by omega
        have hk0 : ¬ ((k : Int) < 0) := by omega
        refine evK_loop c21_9 _ _ _ _ rfl ?_
        rcases oE_or out with ⟨hko,hkn⟩ | hko
        · rw [hko] at LL ⊢
          simp (config := { implicitDefEqProofs := false }) [-Int.natCast_add,h7,hx,hxe,hlt,hlt2,hk0,hk1,hk2,-Int.not_le,-Int.not_lt,-Nat.not_le,-Nat.not_lt,ty3,ty4,ty22,ty34,ty40,hm,hl,hr,E21,e21_37,e21_38,n21_26,n21_8]
          exact LL _ _
        · rw [hko] at LL ⊢
          simp (config := { implicitDefEqProofs := false }) [-Int.natCast_add,h7,hx,hxe,hlt,hlt2,hk0,hk1,hk2,-Int.not_le,-Int.not_lt,-Nat.not_le,-Nat.not_lt,ty3,ty4,ty22,ty34,ty40,hm,hl,hr,E21,e21_37,e21_38,n21_26,n21_8]
          exact LL _ _
      · rw [show rdStep g out (k : Int) = out from by unfold rdStep; rw [if_pos (.inr (by omega))]] at hf
        have IH := fun e7 T X h7 => ih (q + 1) out e7 T X h7 (by omega) (by omega) hf hri (by omega)
        have hk1 : (g.length : Int) ≤ (k : Int) := by omega
        have hk2 : g.length ≤ k := by omega
        have hk0 : ¬ ((k : Int) < 0) := by omega
        refine evK_loop c21_9 _ _ _ _ rfl ?_
        rcases oE_or out with ⟨hko,hkn⟩ | hko
        · rw [hko] at IH ⊢
          simp (config := { implicitDefEqProofs := false }) [-Int.natCast_add,h7,hx,hxe,hlt,hlt2,hw,hk0,hk1,hk2,-Int.not_le,-Int.not_lt,-Nat.not_le,-Nat.not_lt,ty3,ty4,ty22,ty34,ty40,hm,hl,hr,E21,e21_37,e21_38,n21_26,n21_8]
          exact IH _ _ _ h7
        · rw [hko] at IH ⊢
          simp (config := { implicitDefEqProofs := false }) [-Int.natCast_add,h7,hx,hxe,hlt,hlt2,hw,hk0,hk1,hk2,-Int.not_le,-Int.not_lt,-Nat.not_le,-Nat.not_lt,ty3,ty4,ty22,ty34,ty40,hm,hl,hr,E21,e21_37,e21_38,n21_26,n21_8]
          exact IH _ _ _ h7
set_option maxHeartbeats 8000000 in
theorem c21 (g : List Grp) (hg : ∀ x ∈ g,x.clients.length < 1000) (hgl : g.length < 100000) (ms : List Int) (hms : ms.length ≤ 50) (S : St) : EvF gS 21 [.slice (encGrps g),.slice (intVs ms)] S = some (.ret (.slice (intVs (greaders g ms))) none,S) := by
  refine EvF_start fi61_eq (fun x h => by cases h) m21 ?_
  rw [st21]
  have hm : fi21.marks = [1000000] := rfl
  have hl : fi21.locals = [] := rfl
  have hr : fi21.results = [.tmp 4] := rfl
  have hz := fun xs st => frz_slice (xs := intVs xs) (flats_ints xs) st
  have hz0 := hz [] S
  rw [show intVs [] = [] from rfl] at hz0
  unfold greaders
  generalize hK : ms.foldl (rdStep g) [] = K
  generalize hR : (Out.ret (V.slice (intVs K)) none,S) = R
  have H38 : ∀ (e7 : E) (T : List (Nat × E)) (X : List (Nat × List V)),e7.Tame → evK gS fi21 c21_38 { ps := [(0,.val (.slice (encGrps g))),(1,.val (.slice (intVs ms))),(4,.own 0 []),(5,(oE K)),(6,.val (.int .i64 ms.length)),(7,e7)],ts := T,lc := X } S .nil = some R := by
    intro e7 T X h7
    rcases oE_or K with ⟨hk,rfl⟩ | hk
    · rw [hk]
      simp (config := { implicitDefEqProofs := false }) [-Int.natCast_add,h7,hz0,← hR,show intVs [] = [] from rfl,-Int.not_le,-Int.not_lt,-Nat.not_le,-Nat.not_lt,ty3,ty4,ty22,ty34,ty40,hm,hl,hr,E21,e21_37,e21_38,n21_26,n21_8]
    · rw [hk]
      simp (config := { implicitDefEqProofs := false }) [-Int.natCast_add,h7,hz,← hR,-Int.not_le,-Int.not_lt,-Nat.not_le,-Nat.not_lt,ty3,ty4,ty22,ty34,ty40,hm,hl,hr,E21,e21_37,e21_38,n21_26,n21_8]
  have LL := fun e7 T X h7 => LR2 g hg hgl ms hms S R K H38 ms.length 0 [] e7 T X h7 (Nat.zero_le _) rfl (by rw [List.drop_zero]; exact hK.symm) List.Pairwise.nil (Nat.zero_le _)
  rw [show ((0 : Nat) : Int) = 0 from rfl] at LL
  rw [show oE [] = .own 0 [] from rfl] at LL
  simp [-Int.not_le,-Int.not_lt,-Nat.not_le,-Nat.not_lt,ty3,ty4,ty22,ty34,ty40,hm,hl,hr,E21,e21_37,e21_38,n21_26,n21_8]
  exact LL _ _ _ tame_any
theorem k21 (g : List Grp) (hg : ∀ x ∈ g,x.clients.length < 1000) (hgl : g.length < 100000) (ms : List Int) (hms : ms.length ≤ 50) (fr : Fr) (st : St) : callStep gS (EvF gS) 21 [.slice (encGrps g),.slice (intVs ms)] fr st = some (.ok (.val (.slice (intVs (greaders g ms)))) fr st) :=
  call_pure rfl fi61_eq rfl (fun st => c21 g hg hgl ms hms st) (by simp [V.flat])
theorem x21 : gS.ext 21 = none := rfl
theorem p21 : fi21.pure = true := rfl
def fi23 : FI := { body := codeOf Try.f23,ntmps := 63,results := [.tmp 6],pers := [0,1,2,6,7,8],locals := [],pure := true,marks := [1000000] }
theorem fi63_eq : gS.fn 23 = some fi23 := by kernel_rfl
theorem st23 (a0 a1 a2 : V) : startFr fi23 [a0,a1,a2] = { ps := [(0,.val a0),(1,.val a1),(2,.val a2),(6,.any),(7,.any),(8,.any)],ts := [],lc := [] } := rfl
def b23 : Code := mini (codeOf Try.f23)
def c23_8 : Code := .seq (codeN b23 75) .ret
def c23_7 : Code := .cond (.tmp 26) c23_8 .skip
def c23_5 : Code := .seq (codeN b23 19) c23_7
def c23_20 : Code := .cond (.tmp 35) .skip (.exit 0)
def c23_18 : Code := .seq (codeN b23 535) c23_20
def r23_26 : Array Oper := regOps (codeN (codeOf Try.f23) 2199)
def c23_26 : Code := .region 7 r23_26 true
def q23_26 : List (Oper × Fl) := [(mv 38 0 34,⟨true,false,true,false,false,false,true,true,false,false,[]⟩),
 (mv 39 2 3,⟨true,false,true,false,false,false,true,true,false,false,[]⟩),
 (ixa 40 34 38 39 0,⟨true,false,true,false,false,false,true,true,false,false,[]⟩),
 (op1 41 (.fieldAddr 40 (.tmp 40) 1) 0,⟨true,false,true,false,false,false,true,true,false,false,[]⟩),
 (ld 42 22 41 22,⟨true,false,true,false,false,false,true,true,false,false,[]⟩),
 (mv 43 0 34,⟨true,false,true,false,false,false,true,true,false,false,[]⟩),
 (mv 44 1 3,⟨true,false,true,false,false,false,true,true,false,false,[]⟩),
 (ixa 45 34 43 44 0,⟨true,false,true,false,false,false,true,true,false,false,[]⟩),
 (op1 46 (.fieldAddr 40 (.tmp 45) 1) 0,⟨true,false,true,false,false,false,true,true,false,false,[]⟩),
 (ld 47 22 46 22,⟨true,false,true,false,false,false,true,true,false,false,[]⟩),
 (mv 48 8 3,⟨true,false,true,false,true,false,true,true,false,false,[]⟩),
 (ixa 49 22 47 48 0,⟨true,false,true,false,true,false,true,true,false,false,[]⟩),
 (ld 50 3 49 3,⟨true,false,true,false,true,false,true,true,false,false,[]⟩),
 (cal 51 58 [(.tmp 42),(.tmp 50)] [22,3] 4,⟨true,true,true,false,true,true,true,true,false,false,[]⟩)]
def c23_28 : Code := codeN b23 5271
def c23_27 : Code := .cond (.tmp 51) c23_28 .skip
def c23_25 : Code := .seq c23_26 c23_27
def c23_30 : Code := codeN b23 919
def c23_23 : Code := .seq (.block 1 c23_25) c23_30
def c23_17 : Code := .seq c23_18 c23_23
def c23_16 : Code := .loop c23_17
def c23_15 : Code := .block 0 c23_16
def c23_13 : Code := .seq (codeN b23 39) c23_15
def c23_31 : Code := .seq (codeN b23 47) .ret
theorem e23_31 : evK gS fi23 c23_31 fr st k = opsR gS fi23 [mv 62 7 22,
 asn 6 62 22] fr st (.seq .ret k) := evK_rs 9 rfl (by kernel_rfl)
def c23_12 : Code := .seq c23_13 c23_31
def c23_4 : Code := .seq c23_5 c23_12
def c23_2 : Code := .seq (codeN b23 5) c23_4
def c23_0 : Code := .seq (codeN b23 2) c23_2
theorem E23 : (evK gS fi23 c23_8 fr st k = opsR gS fi23 [mv 27 7 22,
 asn 6 27 22] fr st (.seq .ret k)) ∧
 evK gS fi23 c23_7 fr st k = condK gS fi23 (fr.op (.tmp 26)).bool? c23_8 .skip fr st k ∧
 (evK gS fi23 c23_5 fr st k = opsR gS fi23 [mv 9 1 3,
 op1 10 (.binOp .lss 3 (.tmp 9) (.const (.int .i64 0)) 3) 4,
 mv 11 10 4,
 mk (some 12) (.move (.tmp 2)) 3 (some (2,false)),
 mk (some 13) (.binOp .lss 3 (.tmp 12) (.const (.int .i64 0)) 3) 4 (some (2,false)),
 op1 14 (.pick (.tmp 11) (.const (.bool true)) (.tmp 13)) 4,
 mv 15 14 4,
 mk (some 16) (.move (.tmp 1)) 3 (some (6,false)),
 mk (some 17) (.move (.tmp 0)) 34 (some (6,false)),
 mk (some 18) (.call { callee := (.builtin .len),args := #[(.tmp 17)],argTypes := #[34] }) 3 (some (6,false)),
 mk (some 19) (.binOp .geq 3 (.tmp 16) (.tmp 18) 3) 4 (some (6,false)),
 op1 20 (.pick (.tmp 15) (.const (.bool true)) (.tmp 19)) 4,
 mv 21 20 4,
 mk (some 22) (.move (.tmp 2)) 3 (some (12,false)),
 mk (some 23) (.move (.tmp 0)) 34 (some (12,false)),
 mk (some 24) (.call { callee := (.builtin .len),args := #[(.tmp 23)],argTypes := #[34] }) 3 (some (12,false)),
 mk (some 25) (.binOp .geq 3 (.tmp 22) (.tmp 24) 3) 4 (some (12,false)),
 op1 26 (.pick (.tmp 21) (.const (.bool true)) (.tmp 25)) 4] fr st (.seq c23_7 k)) ∧
 evK gS fi23 c23_20 fr st k = condK gS fi23 (fr.op (.tmp 35)).bool? .skip (.exit 0) fr st k ∧
 (evK gS fi23 c23_18 fr st k = opsR gS fi23 [mv 28 8 3,
 mv 29 0 34,
 mv 30 1 3,
 ixa 31 34 29 30 0,
 op1 32 (.fieldAddr 40 (.tmp 31) 1) 0,
 ld 33 22 32 22,
 len1 34 33 22 3,
 bop 35 .lss 3 28 34 3 4] fr st (.seq c23_20 k)) ∧
 evK gS fi23 c23_26 fr st k = drwR gS fi23 r23_26 q23_26 fr st k ∧
 (evK gS fi23 c23_28 fr st k = opsR gS fi23 [mv 52 7 22,
 mv 53 0 34,
 mv 54 1 3,
 ixa 55 34 53 54 0,
 op1 56 (.fieldAddr 40 (.tmp 55) 1) 0,
 ld 57 22 56 22,
 mv 58 8 3,
 ixa 59 22 57 58 0,
 ld 60 3 59 3,
 cal 61 52 [(.tmp 52),(.tmp 60)] [22,3] 22,
 asn 7 61 22] fr st k) ∧
 evK gS fi23 c23_27 fr st k = condK gS fi23 (fr.op (.tmp 51)).bool? c23_28 .skip fr st k ∧
 evK gS fi23 c23_25 fr st k = evK gS fi23 c23_26 fr st (.seq c23_27 k) ∧
 (evK gS fi23 c23_30 fr st k = opsR gS fi23 [mv 36 8 3,
 op1 37 (.binOp .add 3 (.tmp 36) (.const (.int .i64 1)) 3) 3,
 asn 8 37 3] fr st k) ∧
 evK gS fi23 c23_23 fr st k = evK gS fi23 c23_25 fr st (.blk 1 (.seq c23_30 k)) ∧
 evK gS fi23 c23_17 fr st k = evK gS fi23 c23_18 fr st (.seq c23_23 k) ∧
 evK gS fi23 c23_15 fr st k = evK gS fi23 c23_16 fr st (.blk 0 k) ∧
 evK gS fi23 c23_13 fr st k = opsR gS fi23 [op1 8 (.assign (.const (.int .i64 0))) 3] fr st (.seq c23_15 k) ∧
 evK gS fi23 c23_12 fr st k = evK gS fi23 c23_13 fr st (.seq c23_31 k) ∧
 evK gS fi23 c23_4 fr st k = evK gS fi23 c23_5 fr st (.seq c23_12 k) ∧
 evK gS fi23 c23_2 fr st k = opsR gS fi23 [op1 7 (.assign (.const (.slice none 0 0))) 22] fr st (.seq c23_4 k) ∧
 evK gS fi23 c23_0 fr st k = opsR gS fi23 [op1 6 (.assign (.const (.slice none 0 0))) 22] fr st (.seq c23_2 k) := ⟨evK_rs 3 rfl (by kernel_rfl),rfl,evK_rs 2 rfl (by kernel_rfl),rfl,evK_rs 5 rfl (by kernel_rfl),evK_dr 7 rfl (by kernel_rfl) (by kernel_rfl),evK_r 8 (by kernel_rfl),rfl,rfl,evK_r 6 (by kernel_rfl),rfl,rfl,rfl,evK_rs 4 rfl (by kernel_rfl),rfl,rfl,evK_rs 1 rfl (by kernel_rfl),evK_rs 0 rfl (by kernel_rfl)⟩
theorem m23 : mini fi23.body = c23_0 := by kernel_rfl
theorem n23_16 (fr : Fr) (st : St) (k : Kt) : nextK gS fi23 (.loop c23_17 k) .normal fr st = evK gS fi23 c23_16 fr st k := rfl
set_option maxHeartbeats 8000000 in
theorem LB63 (g : List Grp) (hg : ∀ x ∈ g,x.clients.length < 1000) (hgl : g.length < 100000) (a b : Nat) (u v : Grp) (hu : g[a]? = some u) (hv : g[b]? = some v) (S : St) (R : Out × St)  (fin : List Int)
    (H : ∀  (T : List (Nat × E)) (X : List (Nat × List V)),evK gS fi23 c23_31 { ps := [(0,.val (.slice (encGrps g))),(1,.val (.int .i64 (a : Nat))),(2,.val (.int .i64 (b : Nat))),(6,.own 0 []),(7,oE fin),(8,.val (.int .i64 u.clients.length))],ts := T,lc := X } S .nil = some R) :
    ∀ (m q : Nat) (out : List Int)  (T : List (Nat × E)) (X : List (Nat × List V)) ,q ≤ u.clients.length → u.clients.length - q = m → fin = bothI v.clients (u.clients.drop q) out → rising out → out.length ≤ q →
    evK gS fi23 c23_16 { ps := [(0,.val (.slice (encGrps g))),(1,.val (.int .i64 (a : Nat))),(2,.val (.int .i64 (b : Nat))),(6,.own 0 []),(7,oE out),(8,.val (.int .i64 (q : Nat)))],ts := T,lc := X } S (.blk 0 (.seq c23_31 .nil)) = some R := by
  intro m
  have hm : fi23.marks = [1000000] := rfl
  have hl : fi23.locals = [] := rfl
  have hr : fi23.results = [.tmp 6] := rfl
  obtain ⟨u1,u2⟩ := List.getElem?_eq_some_iff.1 hu
  have u3 : (a : Int) < (g.length : Int) := by omega
  have hul := hg u (List.mem_of_getElem? hu)
  obtain ⟨v1,v2⟩ := List.getElem?_eq_some_iff.1 hv
  have v3 : (b : Int) < (g.length : Int) := by omega
  have hvl := hg v (List.mem_of_getElem? hv)
  induction m with
  | zero =>
    intro q out  T X  hq hm2 hf hri hol
    obtain rfl : q = u.clients.length := by omega
    rw [List.drop_length] at hf
    have hf2 : fin = out := hf
    subst hf2
    refine evK_loop c23_17 _ _ _ _ rfl ?_
    rcases oE_or fin with ⟨hk,rfl⟩ | hk
    · rw [hk] at H ⊢
      simp (config := { implicitDefEqProofs := false }) [-Int.natCast_add,-St.obj,-St.set,hu,u1,u2,u3,hv,v1,v2,v3,-Int.not_le,-Int.not_lt,-Nat.not_le,-Nat.not_lt,ty3,ty4,ty22,ty34,ty40,hm,hl,hr,x52,fi96_eq,p52,x58,fi99_eq,p58,E23,q23_26,n23_16]
      exact H  _ _
    · rw [hk] at H ⊢
      simp (config := { implicitDefEqProofs := false }) [-Int.natCast_add,-St.obj,-St.set,hu,u1,u2,u3,hv,v1,v2,v3,-Int.not_le,-Int.not_lt,-Nat.not_le,-Nat.not_lt,ty3,ty4,ty22,ty34,ty40,hm,hl,hr,x52,fi96_eq,p52,x58,fi99_eq,p58,E23,q23_26,n23_16]
      exact H  _ _
  | succ m ih =>
    intro q out  T X  hq hm2 hf hri hol
    obtain ⟨x,hx⟩ : ∃ x,u.clients[q]? = some x := ⟨u.clients[q]'(by omega),List.getElem?_eq_getElem (by omega)⟩
    have hlt : (q : Int) < (u.clients.length : Int) := by omega
    obtain ⟨hlt2,hxe⟩ := List.getElem?_eq_some_iff.1 hx
    have hw : IntKind.wrap .i64 ((q : Int) + 1) = ((q + 1 : Nat) : Int) := by rw [wrap64 (by omega) (by omega)]; omega
    rw [drop_get hx,show bothI v.clients (x :: u.clients.drop (q + 1)) out = bothI v.clients (u.clients.drop (q + 1)) (if hasI v.clients x = true then layI out x else out) from rfl] at hf
    have hll := layI_len out x
    have kk := fun fr st => k52 out (by omega) hri x fr st
    have kh := fun fr st => k58 v.clients x (by omega) fr st
    generalize hasI v.clients x = z at *
    refine evK_loop c23_17 _ _ _ _ rfl ?_
    cases z with
    | true =>
      rw [if_pos rfl] at hf
      have IH := fun T X => ih (q + 1) (layI out x) T X (by omega) (by omega) hf (layI_rising hri) (by omega)
      rw [oE_lay] at IH
      rcases oE_or out with ⟨hk,rfl⟩ | hk
      · rw [show intVs [] = [] from rfl] at kk
        rw [hk]
        simp (config := { implicitDefEqProofs := false }) [-Int.natCast_add,hx,hxe,hlt,hlt2,hw,hu,u1,u2,u3,hv,v1,v2,v3,kk,kh,IH,-Int.not_le,-Int.not_lt,-Nat.not_le,-Nat.not_lt,ty3,ty4,ty22,ty34,ty40,hm,hl,hr,x52,fi96_eq,p52,x58,fi99_eq,p58,E23,q23_26,e23_31,n23_16]
      · rw [hk]
        simp (config := { implicitDefEqProofs := false }) [-Int.natCast_add,hx,hxe,hlt,hlt2,hw,hu,u1,u2,u3,hv,v1,v2,v3,kk,kh,IH,-Int.not_le,-Int.not_lt,-Nat.not_le,-Nat.not_lt,ty3,ty4,ty22,ty34,ty40,hm,hl,hr,x52,fi96_eq,p52,x58,fi99_eq,p58,E23,q23_26,e23_31,n23_16]
    | false =>
      rw [if_neg (by simp)] at hf
      have IH := fun T X => ih (q + 1) out T X (by omega) (by omega) hf hri (by omega)
      rcases oE_or out with ⟨hk,rfl⟩ | hk
      · rw [hk] at IH ⊢
        simp (config := { implicitDefEqProofs := false }) [-Int.natCast_add,hx,hxe,hlt,hlt2,hw,hu,u1,u2,u3,hv,v1,v2,v3,kh,IH,-Int.not_le,-Int.not_lt,-Nat.not_le,-Nat.not_lt,ty3,ty4,ty22,ty34,ty40,hm,hl,hr,x52,fi96_eq,p52,x58,fi99_eq,p58,E23,q23_26,e23_31,n23_16]
      · rw [hk] at IH ⊢
        simp (config := { implicitDefEqProofs := false }) [-Int.natCast_add,hx,hxe,hlt,hlt2,hw,hu,u1,u2,u3,hv,v1,v2,v3,kh,IH,-Int.not_le,-Int.not_lt,-Nat.not_le,-Nat.not_lt,ty3,ty4,ty22,ty34,ty40,hm,hl,hr,x52,fi96_eq,p52,x58,fi99_eq,p58,E23,q23_26,e23_31,n23_16]
set_option maxHeartbeats 8000000 in
theorem c23 (g : List Grp) (hg : ∀ x ∈ g,x.clients.length < 1000) (hgl : g.length < 100000) (a b : Nat) (u v : Grp) (hu : g[a]? = some u) (hv : g[b]? = some v) (S : St) : EvF gS 23 [.slice (encGrps g),.int .i64 (a : Nat),.int .i64 (b : Nat)] S = some (.ret (.slice (intVs (bothI v.clients u.clients []))) none,S) := by
  refine EvF_start fi63_eq (fun x h => by cases h) m23 ?_
  rw [st23]
  have hm : fi23.marks = [1000000] := rfl
  have hl : fi23.locals = [] := rfl
  have hr : fi23.results = [.tmp 6] := rfl
  have hz := fun xs st => frz_slice (xs := intVs xs) (flats_ints xs) st
  have hz0 := hz [] S
  rw [show intVs [] = [] from rfl] at hz0
  generalize hK : bothI v.clients u.clients [] = K
  generalize hR : (Out.ret (V.slice (intVs K)) none,S) = R
  obtain ⟨u1,u2⟩ := List.getElem?_eq_some_iff.1 hu
  have u3 : (a : Int) < (g.length : Int) := by omega
  have hul := hg u (List.mem_of_getElem? hu)
  obtain ⟨v1,v2⟩ := List.getElem?_eq_some_iff.1 hv
  have v3 : (b : Int) < (g.length : Int) := by omega
  have hvl := hg v (List.mem_of_getElem? hv)
  have n1 : ¬ (a : Int) < 0 := by omega
  have n2 : ¬ (b : Int) < 0 := by omega
  have n3 : ¬ (g.length : Int) ≤ (a : Int) := by omega
  have n4 : ¬ (g.length : Int) ≤ (b : Int) := by omega
  have H31 : ∀  (T : List (Nat × E)) (X : List (Nat × List V)),evK gS fi23 c23_31 { ps := [(0,.val (.slice (encGrps g))),(1,.val (.int .i64 (a : Nat))),(2,.val (.int .i64 (b : Nat))),(6,.own 0 []),(7,(oE K)),(8,.val (.int .i64 u.clients.length))],ts := T,lc := X } S .nil = some R := by
    intro  T X 
    rcases oE_or K with ⟨hk,rfl⟩ | hk
    · rw [hk]
      simp (config := { implicitDefEqProofs := false }) [-Int.natCast_add,hz0,← hR,show intVs [] = [] from rfl,-Int.not_le,-Int.not_lt,-Nat.not_le,-Nat.not_lt,ty3,ty4,ty22,ty34,ty40,hm,hl,hr,x52,fi96_eq,p52,x58,fi99_eq,p58,E23,q23_26,e23_31,n23_16]
    · rw [hk]
      simp (config := { implicitDefEqProofs := false }) [-Int.natCast_add,hz,← hR,-Int.not_le,-Int.not_lt,-Nat.not_le,-Nat.not_lt,ty3,ty4,ty22,ty34,ty40,hm,hl,hr,x52,fi96_eq,p52,x58,fi99_eq,p58,E23,q23_26,e23_31,n23_16]
  have LL := fun  T X  => LB63 g hg hgl a b u v hu hv S R K H31 u.clients.length 0 []  T X  (Nat.zero_le _) rfl (by rw [List.drop_zero]; exact hK.symm) List.Pairwise.nil (Nat.zero_le _)
  rw [show ((0 : Nat) : Int) = 0 from rfl] at LL
  rw [show oE [] = .own 0 [] from rfl] at LL
  simp (config := { implicitDefEqProofs := false }) [-Int.natCast_add,u1,v1,n1,n2,n3,n4,LL,-Int.not_le,-Int.not_lt,-Nat.not_le,-Nat.not_lt,ty3,ty4,ty22,ty34,ty40,hm,hl,hr,x52,fi96_eq,p52,x58,fi99_eq,p58,E23,q23_26,e23_31,n23_16]
theorem k23 (g : List Grp) (hg : ∀ x ∈ g,x.clients.length < 1000) (hgl : g.length < 100000) (a b : Nat) (u v : Grp) (hu : g[a]? = some u) (hv : g[b]? = some v) (fr : Fr) (st : St) : callStep gS (EvF gS) 23 [.slice (encGrps g),.int .i64 (a : Nat),.int .i64 (b : Nat)] fr st = some (.ok (.val (.slice (intVs (bothI v.clients u.clients [])))) fr st) :=
  call_pure rfl fi63_eq rfl (fun st => c23 g hg hgl a b u v hu hv st) (by simp [V.flat])
theorem x23 : gS.ext 23 = none := rfl
theorem p23 : fi23.pure = true := rfl
end
end Go.Proofs.Ytdoobejjedpcgaa
namespace Go.Proofs.Ytdoobejjedpcgaa
open Go Go.Ab
set_option maxRecDepth 20000
noncomputable section
variable (fr : Fr) (st : St) (k : Kt)
def fi22 : FI := { body := codeOf Try.f22,ntmps := 51,results := [.tmp 6],pers := [0,1,2,6,7,9,33,34,35],locals := [],pure := true,marks := [1000000] }
theorem fi62_eq : gS.fn 22 = some fi22 := by kernel_rfl
theorem st22 (a0 a1 a2 : V) : startFr fi22 [a0,a1,a2] = { ps := [(0,.val a0),(1,.val a1),(2,.val a2),(6,.any),(7,.any),(9,.any),(33,.any),(34,.any),(35,.any)],ts := [],lc := [] } := rfl
def b22 : Code := mini (codeOf Try.f22)
def c22_8 : Code := .seq (codeN b22 75) .ret
def c22_7 : Code := .cond (.tmp 27) c22_8 .skip
def c22_5 : Code := .seq (codeN b22 19) c22_7
def c22_30 : Code := codeN b22 22935
def c22_29 : Code := .cond (.tmp 45) c22_30 .skip
def c22_27 : Code := .seq (codeN b22 10647) c22_29
def c22_25 : Code := .seq (codeN b22 4503) c22_27
def c22_32 : Code := codeN b22 1943
def c22_23 : Code := .seq (.block 1 c22_25) c22_32
def c22_19 : Code := .seq (.cond (.tmp 36) .skip (.exit 0)) c22_23
def c22_17 : Code := .seq (codeN b22 279) c22_19
def c22_16 : Code := .loop c22_17
def c22_15 : Code := .block 0 c22_16
def c22_13 : Code := .seq (codeN b22 39) c22_15
def c22_33 : Code := .seq (codeN b22 47) .ret
theorem e22_33 : evK gS fi22 c22_33 fr st k = opsR gS fi22 [mv 50 7 22,
 asn 6 50 22] fr st (.seq .ret k) := evK_rs 10 rfl (by kernel_rfl)
def c22_12 : Code := .seq c22_13 c22_33
def c22_4 : Code := .seq c22_5 c22_12
def c22_2 : Code := .seq (codeN b22 5) c22_4
def c22_0 : Code := .seq (codeN b22 2) c22_2
theorem E22 : (evK gS fi22 c22_8 fr st k = opsR gS fi22 [mv 28 7 22,
 asn 6 28 22] fr st (.seq .ret k)) ∧
 evK gS fi22 c22_7 fr st k = condK gS fi22 (fr.op (.tmp 27)).bool? c22_8 .skip fr st k ∧
 (evK gS fi22 c22_5 fr st k = opsR gS fi22 [mv 10 1 3,
 op1 11 (.binOp .lss 3 (.tmp 10) (.const (.int .i64 0)) 3) 4,
 mv 12 11 4,
 mk (some 13) (.move (.tmp 1)) 3 (some (2,false)),
 mk (some 14) (.move (.tmp 0)) 32 (some (2,false)),
 mk (some 15) (.call { callee := (.builtin .len),args := #[(.tmp 14)],argTypes := #[32] }) 3 (some (2,false)),
 mk (some 16) (.binOp .geq 3 (.tmp 13) (.tmp 15) 3) 4 (some (2,false)),
 op1 17 (.pick (.tmp 12) (.const (.bool true)) (.tmp 16)) 4,
 mv 18 17 4,
 mk (some 19) (.move (.tmp 2)) 3 (some (8,false)),
 mk (some 20) (.binOp .lss 3 (.tmp 19) (.const (.int .i64 0)) 3) 4 (some (8,false)),
 op1 21 (.pick (.tmp 18) (.const (.bool true)) (.tmp 20)) 4,
 mv 22 21 4,
 mk (some 23) (.move (.tmp 2)) 3 (some (12,false)),
 mk (some 24) (.move (.tmp 0)) 32 (some (12,false)),
 mk (some 25) (.call { callee := (.builtin .len),args := #[(.tmp 24)],argTypes := #[32] }) 3 (some (12,false)),
 mk (some 26) (.binOp .geq 3 (.tmp 23) (.tmp 25) 3) 4 (some (12,false)),
 op1 27 (.pick (.tmp 22) (.const (.bool true)) (.tmp 26)) 4] fr st (.seq c22_7 k)) ∧
 (evK gS fi22 c22_30 fr st k = opsR gS fi22 [mv 46 7 22,
 mv 47 9 3,
 cal 48 51 [(.tmp 46),(.tmp 47)] [22,3] 22,
 asn 7 48 22] fr st k) ∧
 evK gS fi22 c22_29 fr st k = condK gS fi22 (fr.op (.tmp 45)).bool? c22_30 .skip fr st k ∧
 (evK gS fi22 c22_27 fr st k = opsR gS fi22 [mv 39 0 32,
 mv 40 2 3,
 ixa 41 32 39 40 0,
 op1 42 (.fieldAddr 39 (.tmp 41) 1) 0,
 ld 43 22 42 22,
 mv 44 9 3,
 cal 45 57 [(.tmp 43),(.tmp 44)] [22,3] 4] fr st (.seq c22_29 k)) ∧
 (evK gS fi22 c22_25 fr st k = opsR gS fi22 [ixa 37 22 33 35 0,
 ld 38 3 37 3,
 asn 9 38 3] fr st (.seq c22_27 k)) ∧
 (evK gS fi22 c22_32 fr st k = opsR gS fi22 [op1 49 (.binOp .add 3 (.tmp 35) (.const (.int .i64 1)) 3) 3,
 mv 35 49 3] fr st k) ∧
 evK gS fi22 c22_23 fr st k = evK gS fi22 c22_25 fr st (.blk 1 (.seq c22_32 k)) ∧
 evK gS fi22 c22_19 fr st k = condK gS fi22 (fr.op (.tmp 36)).bool? .skip (.exit 0) fr st (.seq c22_23 k) ∧
 evK gS fi22 c22_17 fr st k = opsR gS fi22 [bop 36 .lss 3 35 34 3 0] fr st (.seq c22_19 k) ∧
 evK gS fi22 c22_15 fr st k = evK gS fi22 c22_16 fr st (.blk 0 k) ∧
 (evK gS fi22 c22_13 fr st k = opsR gS fi22 [mv 29 0 32,
 mv 30 1 3,
 ixa 31 32 29 30 0,
 op1 32 (.fieldAddr 39 (.tmp 31) 1) 0,
 ld 33 22 32 22,
 len1 34 33 22 3,
 op1 35 (.move (.const (.int .i64 0))) 3] fr st (.seq c22_15 k)) ∧
 evK gS fi22 c22_12 fr st k = evK gS fi22 c22_13 fr st (.seq c22_33 k) ∧
 evK gS fi22 c22_4 fr st k = evK gS fi22 c22_5 fr st (.seq c22_12 k) ∧
 evK gS fi22 c22_2 fr st k = opsR gS fi22 [op1 7 (.assign (.const (.slice none 0 0))) 22] fr st (.seq c22_4 k) ∧
 evK gS fi22 c22_0 fr st k = opsR gS fi22 [op1 6 (.assign (.const (.slice none 0 0))) 22] fr st (.seq c22_2 k) := ⟨evK_rs 3 rfl (by kernel_rfl),rfl,evK_rs 2 rfl (by kernel_rfl),evK_r 8 (by kernel_rfl),rfl,evK_rs 7 rfl (by kernel_rfl),evK_rs 6 rfl (by kernel_rfl),evK_r 9 (by kernel_rfl),rfl,rfl,evK_rs 5 rfl (by kernel_rfl),rfl,evK_rs 4 rfl (by kernel_rfl),rfl,rfl,evK_rs 1 rfl (by kernel_rfl),evK_rs 0 rfl (by kernel_rfl)⟩
theorem m22 : mini fi22.body = c22_0 := by kernel_rfl
theorem n22_16 (fr : Fr) (st : St) (k : Kt) : nextK gS fi22 (.loop c22_17 k) .normal fr st = evK gS fi22 c22_16 fr st k := rfl
set_option maxHeartbeats 8000000 in
theorem LB62 (g : List Grp) (hg : ∀ x ∈ g,x.clients.length < 1000) (hgl : g.length < 100000) (a b : Nat) (u v : Grp) (hu : g[a]? = some u) (hv : g[b]? = some v) (S : St) (R : Out × St)  (fin : List Int)
    (H : ∀ (e9 : E) (T : List (Nat × E)) (X : List (Nat × List V)),e9.Tame → evK gS fi22 c22_33 { ps := [(0,.val (.slice (encGrps g))),(1,.val (.int .i64 (a : Nat))),(2,.val (.int .i64 (b : Nat))),(6,.own 0 []),(7,oE fin),(9,e9),(33,.val (.slice (intVs u.clients))),(34,.val (.int .i64 u.clients.length)),(35,.val (.int .i64 u.clients.length))],ts := T,lc := X } S .nil = some R) :
    ∀ (m q : Nat) (out : List Int) (e9 : E) (T : List (Nat × E)) (X : List (Nat × List V)) (h9 : e9.Tame),q ≤ u.clients.length → u.clients.length - q = m → fin = bothI v.clients (u.clients.drop q) out → out.length ≤ q →
    evK gS fi22 c22_16 { ps := [(0,.val (.slice (encGrps g))),(1,.val (.int .i64 (a : Nat))),(2,.val (.int .i64 (b : Nat))),(6,.own 0 []),(7,oE out),(9,e9),(33,.val (.slice (intVs u.clients))),(34,.val (.int .i64 u.clients.length)),(35,.val (.int .i64 (q : Nat)))],ts := T,lc := X } S (.blk 0 (.seq c22_33 .nil)) = some R := by
  intro m
  have hm : fi22.marks = [1000000] := rfl
  have hl : fi22.locals = [] := rfl
  have hr : fi22.results = [.tmp 6] := rfl
  obtain ⟨u1,u2⟩ := List.getElem?_eq_some_iff.1 hu
  have u3 : (a : Int) < (g.length : Int) := by omega
  have hul := hg u (List.mem_of_getElem? hu)
  obtain ⟨v1,v2⟩ := List.getElem?_eq_some_iff.1 hv
  have v3 : (b : Int) < (g.length : Int) := by omega
  have hvl := hg v (List.mem_of_getElem? hv)
  induction m with
  | zero =>
    intro q out e9 T X h9 hq hm2 hf hol
    obtain rfl : q = u.clients.length := by omega
    rw [List.drop_length] at hf
    have hf2 : fin = out := hf
    subst hf2
    refine evK_loop c22_17 _ _ _ _ rfl ?_
    rcases oE_or fin with ⟨hk,rfl⟩ | hk
    · rw [hk] at H ⊢
      simp (config := { implicitDefEqProofs := false }) [-Int.natCast_add,-St.obj,-St.set,h9,hu,u1,u2,u3,hv,v1,v2,v3,-Int.not_le,-Int.not_lt,-Nat.not_le,-Nat.not_lt,ty3,ty4,ty22,ty32,ty39,hm,hl,hr,E22,n22_16]
      exact H _ _ _ h9
    · rw [hk] at H ⊢
      simp (config := { implicitDefEqProofs := false }) [-Int.natCast_add,-St.obj,-St.set,h9,hu,u1,u2,u3,hv,v1,v2,v3,-Int.not_le,-Int.not_lt,-Nat.not_le,-Nat.not_lt,ty3,ty4,ty22,ty32,ty39,hm,hl,hr,E22,n22_16]
      exact H _ _ _ h9
  | succ m ih =>
    intro q out e9 T X h9 hq hm2 hf hol
    obtain ⟨x,hx⟩ : ∃ x,u.clients[q]? = some x := ⟨u.clients[q]'(by omega),List.getElem?_eq_getElem (by omega)⟩
    have hlt : (q : Int) < (u.clients.length : Int) := by omega
    obtain ⟨hlt2,hxe⟩ := List.getElem?_eq_some_iff.1 hx
    have hw : IntKind.wrap .i64 ((q : Int) + 1) = ((q + 1 : Nat) : Int) := by rw [wrap64 (by omega) (by omega)]; omega
    rw [drop_get hx,show bothI v.clients (x :: u.clients.drop (q + 1)) out = bothI v.clients (u.clients.drop (q + 1)) (if hasI v.clients x = true then layI out x else out) from rfl] at hf
    have hll := layI_len out x
    have kk := fun fr st => k51 out (by omega) x fr st
    have kh := fun fr st => k57 v.clients x (by omega) fr st
    generalize hasI v.clients x = z at *
    refine evK_loop c22_17 _ _ _ _ rfl ?_
    cases z with
    | true =>
      rw [if_pos rfl] at hf
      have IH := fun e9 T X h9 => ih (q + 1) (layI out x) e9 T X h9 (by omega) (by omega) hf (by omega)
      rw [oE_lay] at IH
      rcases oE_or out with ⟨hk,rfl⟩ | hk
      · rw [show intVs [] = [] from rfl] at kk
        rw [hk]
        simp (config := { implicitDefEqProofs := false }) [-Int.natCast_add,h9,hx,hxe,hlt,hlt2,hw,hu,u1,u2,u3,hv,v1,v2,v3,kk,kh,-Int.not_le,-Int.not_lt,-Nat.not_le,-Nat.not_lt,ty3,ty4,ty22,ty32,ty39,hm,hl,hr,E22,e22_33,n22_16]
        exact IH _ _ _ (tame_val _)
      · rw [hk]
        simp (config := { implicitDefEqProofs := false }) [-Int.natCast_add,h9,hx,hxe,hlt,hlt2,hw,hu,u1,u2,u3,hv,v1,v2,v3,kk,kh,-Int.not_le,-Int.not_lt,-Nat.not_le,-Nat.not_lt,ty3,ty4,ty22,ty32,ty39,hm,hl,hr,E22,e22_33,n22_16]
        exact IH _ _ _ (tame_val _)
    | false =>
      rw [if_neg (by simp)] at hf
      have IH := fun e9 T X h9 => ih (q + 1) out e9 T X h9 (by omega) (by omega) hf (by omega)
      rcases oE_or out with ⟨hk,rfl⟩ | hk
      · rw [hk] at IH ⊢
        simp (config := { implicitDefEqProofs := false }) [-Int.natCast_add,h9,hx,hxe,hlt,hlt2,hw,hu,u1,u2,u3,hv,v1,v2,v3,kh,-Int.not_le,-Int.not_lt,-Nat.not_le,-Nat.not_lt,ty3,ty4,ty22,ty32,ty39,hm,hl,hr,E22,e22_33,n22_16]
        exact IH _ _ _ (tame_val _)
      · rw [hk] at IH ⊢
        simp (config := { implicitDefEqProofs := false }) [-Int.natCast_add,h9,hx,hxe,hlt,hlt2,hw,hu,u1,u2,u3,hv,v1,v2,v3,kh,-Int.not_le,-Int.not_lt,-Nat.not_le,-Nat.not_lt,ty3,ty4,ty22,ty32,ty39,hm,hl,hr,E22,e22_33,n22_16]
        exact IH _ _ _ (tame_val _)
set_option maxHeartbeats 8000000 in
theorem c22 (g : List Grp) (hg : ∀ x ∈ g,x.clients.length < 1000) (hgl : g.length < 100000) (a b : Nat) (u v : Grp) (hu : g[a]? = some u) (hv : g[b]? = some v) (S : St) : EvF gS 22 [.slice (encGrps g),.int .i64 (a : Nat),.int .i64 (b : Nat)] S = some (.ret (.slice (intVs (bothI v.clients u.clients []))) none,S) := by
  refine EvF_start fi62_eq (fun x h => by cases h) m22 ?_
  rw [st22]
  have hm : fi22.marks = [1000000] := rfl
  have hl : fi22.locals = [] := rfl
  have hr : fi22.results = [.tmp 6] := rfl
  have hz := fun xs st => frz_slice (xs := intVs xs) (flats_ints xs) st
  have hz0 := hz [] S
  rw [show intVs [] = [] from rfl] at hz0
  generalize hK : bothI v.clients u.clients [] = K
  generalize hR : (Out.ret (V.slice (intVs K)) none,S) = R
  obtain ⟨u1,u2⟩ := List.getElem?_eq_some_iff.1 hu
  have u3 : (a : Int) < (g.length : Int) := by omega
  have hul := hg u (List.mem_of_getElem? hu)
  obtain ⟨v1,v2⟩ := List.getElem?_eq_some_iff.1 hv
  have v3 : (b : Int) < (g.length : Int) := by omega
  have hvl := hg v (List.mem_of_getElem? hv)
  have n1 : ¬ (a : Int) < 0 := by omega
  have n2 : ¬ (b : Int) < 0 := by omega
  have n3 : ¬ (g.length : Int) ≤ (a : Int) := by omega
  have n4 : ¬ (g.length : Int) ≤ (b : Int) := by omega
  have H33 : ∀ (e9 : E) (T : List (Nat × E)) (X : List (Nat × List V)),e9.Tame → evK gS fi22 c22_33 { ps := [(0,.val (.slice (encGrps g))),(1,.val (.int .i64 (a : Nat))),(2,.val (.int .i64 (b : Nat))),(6,.own 0 []),(7,(oE K)),(9,e9),(33,.val (.slice (intVs u.clients))),(34,.val (.int .i64 u.clients.length)),(35,.val (.int .i64 u.clients.length))],ts := T,lc := X } S .nil = some R := by
    intro e9 T X h9
    rcases oE_or K with ⟨hk,rfl⟩ | hk
    · rw [hk]
      simp (config := { implicitDefEqProofs := false }) [-Int.natCast_add,h9,hz0,← hR,show intVs [] = [] from rfl,-Int.not_le,-Int.not_lt,-Nat.not_le,-Nat.not_lt,ty3,ty4,ty22,ty32,ty39,hm,hl,hr,E22,e22_33,n22_16]
    · rw [hk]
      simp (config := { implicitDefEqProofs := false }) [-Int.natCast_add,h9,hz,← hR,-Int.not_le,-Int.not_lt,-Nat.not_le,-Nat.not_lt,ty3,ty4,ty22,ty32,ty39,hm,hl,hr,E22,e22_33,n22_16]
  have LL := fun e9 T X h9 => LB62 g hg hgl a b u v hu hv S R K H33 u.clients.length 0 [] e9 T X h9 (Nat.zero_le _) rfl (by rw [List.drop_zero]; exact hK.symm) (Nat.zero_le _)
  rw [show ((0 : Nat) : Int) = 0 from rfl] at LL
  rw [show oE [] = .own 0 [] from rfl] at LL
  simp (config := { implicitDefEqProofs := false }) [-Int.natCast_add,hu,hv,u1,u2,u3,v1,n1,n2,n3,n4,-Int.not_le,-Int.not_lt,-Nat.not_le,-Nat.not_lt,ty3,ty4,ty22,ty32,ty39,hm,hl,hr,E22,e22_33,n22_16]
  exact LL _ _ _ tame_any
theorem k22 (g : List Grp) (hg : ∀ x ∈ g,x.clients.length < 1000) (hgl : g.length < 100000) (a b : Nat) (u v : Grp) (hu : g[a]? = some u) (hv : g[b]? = some v) (fr : Fr) (st : St) : callStep gS (EvF gS) 22 [.slice (encGrps g),.int .i64 (a : Nat),.int .i64 (b : Nat)] fr st = some (.ok (.val (.slice (intVs (bothI v.clients u.clients [])))) fr st) :=
  call_pure rfl fi62_eq rfl (fun st => c22 g hg hgl a b u v hu hv st) (by simp [V.flat])
theorem x22 : gS.ext 22 = none := rfl
theorem p22 : fi22.pure = true := rfl
set_option maxHeartbeats 8000000 in
theorem out62 (g : List Grp) (hgl : g.length < 100000) (a b : Int) (h : a < 0 ∨ g.length ≤ a ∨ b < 0 ∨ g.length ≤ b) (S : St) : EvF gS 22 [.slice (encGrps g),.int .i64 a,.int .i64 b] S = some (.ret (.slice (intVs [])) none,S) := by
  refine EvF_start fi62_eq (fun x h => by cases h) m22 ?_
  rw [st22]
  have hm : fi22.marks = [1000000] := rfl
  have hl : fi22.locals = [] := rfl
  have hr : fi22.results = [.tmp 6] := rfl
  have hz := fun xs st => frz_slice (xs := intVs xs) (flats_ints xs) st
  have hz0 := hz [] S
  rw [show intVs [] = [] from rfl] at hz0
  by_cases h1 : a < 0 <;> by_cases h2 : (g.length : Int) ≤ a <;> by_cases h3 : b < 0 <;> by_cases h4 : (g.length : Int) ≤ b
  all_goals first
    | (exfalso; omega)
    | simp (config := { implicitDefEqProofs := false }) [-Int.natCast_add,h1,h2,h3,h4,hz0,show intVs [] = [] from rfl,-Int.not_le,-Int.not_lt,-Nat.not_le,-Nat.not_lt,ty3,ty4,ty22,ty32,ty39,hm,hl,hr,E22,e22_33,n22_16]
theorem kout62 (g : List Grp) (hgl : g.length < 100000) (a b : Int) (h : a < 0 ∨ g.length ≤ a ∨ b < 0 ∨ g.length ≤ b) (fr : Fr) (st : St) : callStep gS (EvF gS) 22 [.slice (encGrps g),.int .i64 a,.int .i64 b] fr st = some (.ok (.val (.slice (intVs []))) fr st) :=
  call_pure rfl fi62_eq rfl (fun st => out62 g hgl a b h st) (by simp [V.flat])
set_option maxHeartbeats 8000000 in
theorem out63 (g : List Grp) (hgl : g.length < 100000) (a b : Int) (h : a < 0 ∨ g.length ≤ a ∨ b < 0 ∨ g.length ≤ b) (S : St) : EvF gS 23 [.slice (encGrps g),.int .i64 a,.int .i64 b] S = some (.ret (.slice (intVs [])) none,S) := by
  refine EvF_start fi63_eq (fun x h => by cases h) m23 ?_
  rw [st23]
  have hm : fi23.marks = [1000000] := rfl
  have hl : fi23.locals = [] := rfl
  have hr : fi23.results = [.tmp 6] := rfl
  have hz := fun xs st => frz_slice (xs := intVs xs) (flats_ints xs) st
  have hz0 := hz [] S
  rw [show intVs [] = [] from rfl] at hz0
  by_cases h1 : a < 0 <;> by_cases h2 : (g.length : Int) ≤ a <;> by_cases h3 : b < 0 <;> by_cases h4 : (g.length : Int) ≤ b
  all_goals first
    | (exfalso; omega)
    | simp (config := { implicitDefEqProofs := false }) [-Int.natCast_add,h1,h2,h3,h4,hz0,show intVs [] = [] from rfl,-Int.not_le,-Int.not_lt,-Nat.not_le,-Nat.not_lt,ty3,ty4,ty22,ty34,ty40,hm,hl,hr,x52,fi96_eq,p52,x58,fi99_eq,p58,E23,q23_26,e23_31,n23_16]
theorem kout63 (g : List Grp) (hgl : g.length < 100000) (a b : Int) (h : a < 0 ∨ g.length ≤ a ∨ b < 0 ∨ g.length ≤ b) (fr : Fr) (st : St) : callStep gS (EvF gS) 23 [.slice (encGrps g),.int .i64 a,.int .i64 b] fr st = some (.ok (.val (.slice (intVs []))) fr st) :=
  call_pure rfl fi63_eq rfl (fun st => out63 g hgl a b h st) (by simp [V.flat])
end
end Go.Proofs.Ytdoobejjedpcgaa
namespace Go.Ab
open Go
def rowS (st : St) (m k : Nat) (out : List Sub) : St := if out = [] then dd st (m + k) else dd (nw st m (out.flatMap Sub.cells)) k
def rowE (st : St) (m : Nat) (out : List Sub) : E := if out = [] then .own 0 [] else .val (.sref false 4 (st.objs.length + m) 0 out.length)
theorem rowS_nil (st : St) (m k : Nat) : rowS st m k [] = dd st (m + k) := rfl
theorem rowE_nil (st : St) (m : Nat) : rowE st m [] = .own 0 [] := rfl
theorem rowS_ne {st : St} {m k : Nat} {out : List Sub} (h : out ≠ []) : rowS st m k out = dd (nw st m (out.flatMap Sub.cells)) k := by unfold rowS; rw [if_neg h]
theorem rowE_ne {st : St} {m : Nat} {out : List Sub} (h : out ≠ []) : rowE st m out = .val (.sref false 4 (st.objs.length + m) 0 out.length) := by unfold rowE; rw [if_neg h]
theorem dd_rowS (st : St) (m k d : Nat) (out : List Sub) : dd (rowS st m k out) d = rowS st m (k + d) out := by
  unfold rowS
  split
  · rw [dd_dd,Nat.add_assoc]
  · rw [dd_dd]
theorem rowS_ok {st : St} {id : Nat} (h : FeedOk st id) (m k : Nat) (out : List Sub) : FeedOk (rowS st m k out) id := by
  unfold rowS
  split
  · exact h.dd _
  · exact (h.nw m _).dd k
theorem rowS_new (st : St) (m : Nat) (out : List Sub) (x : Sub) : nw st m ((out ++ [x]).flatMap Sub.cells) = rowS st m 0 (out ++ [x]) := by
  rw [rowS_ne (by simp),dd_zero]
def rowOut (st : St) (m : Nat) (out : List Sub) : Out := if out = [] then .ret (.slice []) (some 0) else .ret (.sref false 4 (st.objs.length + m) 0 out.length) none
theorem rowOut_nil (st : St) (m : Nat) : rowOut st m [] = .ret (.slice []) (some 0) := rfl
theorem rowOut_ne {st : St} {m : Nat} {out : List Sub} (h : out ≠ []) : rowOut st m out = .ret (.sref false 4 (st.objs.length + m) 0 out.length) none := by unfold rowOut; rw [if_neg h]
theorem rowE_firm (st : St) (m : Nat) (out : List Sub) : (rowE st m out).Firm := by unfold rowE; split <;> rfl
theorem scells_len (l : List Sub) : (l.flatMap Sub.cells).length = l.length * 4 := by
  induction l with
  | nil => rfl
  | cons x r ih => simp only [List.flatMap_cons,List.length_append,ih,List.length_cons,Sub.cells,List.length_nil]; omega
theorem scells_one (l : List Sub) : (l.flatMap Sub.cells).all V.one = true := by
  induction l with
  | nil => rfl
  | cons x r ih => rw [List.flatMap_cons,List.all_append,ih]; rfl
theorem scells_strip (l : List Sub) : (l.flatMap Sub.cells).map V.strip1 = l.flatMap Sub.cells := by
  induction l with
  | nil => rfl
  | cons x r ih => rw [List.flatMap_cons,List.map_append,ih]; rfl
theorem scells_snoc (l : List Sub) (x : Sub) : l.flatMap Sub.cells ++ [.int .i64 x.client,.int .i64 x.broker,.int .i64 x.num,.slice (encPreds x.filter)] = (l ++ [x]).flatMap Sub.cells := by simp
def subsI2 (l : List Int) (a : Nat) (fs : List (List Pred)) (c home : Int) : Nat → Int → Nat → Nat → Nat → List Sub → List Sub × Nat × Nat × Nat
  | 0,_,j,m,k,out => (out,j,m,k)
  | n + 1,num,j,m,k,out =>
    subsI2 l a fs c home n (num + 1 + fd l a j 2) ((filterV l a (j + 1)).2.1 + 1) (m + (k + (filterV l a (j + 1)).2.2) + (if out = [] then 0 else 1)) 0
      (out ++ [⟨c,home,num + 1 + fd l a j 2,if fd l a (filterV l a (j + 1)).2.1 6 < 3 then fs.getD (fd l a (filterV l a (j + 1)).2.1 6).toNat [] else (filterV l a (j + 1)).1⟩])
theorem subsI2_eq (l : List Int) (a : Nat) (fs : List (List Pred)) (c home : Int) : ∀ (n : Nat) (num : Int) (j m k d : Nat) (out : List Sub),(subsI2 l a fs c home n num j m k out).1 = (subsI l a fs c home n num j d out).1 ∧ (subsI2 l a fs c home n num j m k out).2.1 = (subsI l a fs c home n num j d out).2.1
  | 0,_,_,_,_,_,_ => ⟨rfl,rfl⟩
  | n + 1,num,j,m,k,d,out => by
    simp only [subsI2,subsI]
    exact subsI2_eq l a fs c home n _ _ _ _ _ _
def subsO2 (l : List Int) (a P : Nat) (fs : List (List Pred)) : Nat → Int → Nat → Nat → Nat → List Sub → List Sub × Nat × Nat × Nat
  | 0,_,j,m,k,out => (out,j,m,k)
  | r + 1,c,j,m,k,out =>
    let I := subsI2 l a fs c (fd l a j (P + 1)) (fd l a (j + 1) 4).toNat 0 (j + 2) m k out
    subsO2 l a P fs r (c + 1) I.2.1 I.2.2.1 I.2.2.2 I.1
theorem subsO2_eq (l : List Int) (a P : Nat) (fs : List (List Pred)) : ∀ (r : Nat) (c : Int) (j m k d : Nat) (out : List Sub),(subsO2 l a P fs r c j m k out).1 = (subsO l a P fs r c j d out).1 ∧ (subsO2 l a P fs r c j m k out).2.1 = (subsO l a P fs r c j d out).2.1
  | 0,_,_,_,_,_,_ => ⟨rfl,rfl⟩
  | r + 1,c,j,m,k,d,out => by
    have h := subsI2_eq l a fs c (fd l a j (P + 1)) (fd l a (j + 1) 4).toNat 0 (j + 2) m k d out
    simp only [subsO2,subsO]
    rw [h.1,h.2]
    exact subsO2_eq l a P fs r _ _ _ _ _ _
def subsW (l : List Int) (a j P : Nat) : List Sub × Nat × Nat × Nat :=
  subsO2 l a P (subsF l a j) 6 1 (filterV l a (filterV l a j).2.1).2.1 0 ((filterV l a j).2.2 + (filterV l a (filterV l a j).2.1).2.2) []
theorem subsW_eq (l : List Int) (a j P : Nat) : (subsW l a j P).1 = (subsV l a j P).1 ∧ (subsW l a j P).2.1 = (subsV l a j P).2.1 := subsO2_eq l a P _ 6 1 _ _ _ _ []
end Go.Ab
namespace Go.Proofs.Ytdoobejjedpcgaa
open Go Go.Ab
set_option maxRecDepth 20000
noncomputable section
variable (fr : Fr) (st : St) (k : Kt)
def fi10 : FI := { body := codeOf Try.f10,ntmps := 59,results := [.tmp 4],pers := [0,1,4,5,6,7,8,9,10,11,12],locals := [11],pure := false,marks := [57] }
theorem fi53_eq : gS.fn 10 = some fi10 := by kernel_rfl
theorem st10 (a0 a1 : V) : startFr fi10 [a0,a1] = { ps := [(0,.val a0),(1,.val a1),(4,.any),(5,.any),(6,.any),(7,.any),(8,.any),(9,.any),(10,.any),(11,.any),(12,.any)],ts := [],lc := [] } := rfl
def b10 : Code := mini (codeOf Try.f10)
def c10_14 : Code := .cond (.tmp 19) .skip (.exit 0)
def c10_12 : Code := .seq (codeN b10 535) c10_14
def c10_30 : Code := .cond (.tmp 30) .skip (.exit 2)
def c10_28 : Code := .seq (codeN b10 138391) c10_30
def c10_45 : Code := codeN b10 23895191
def c10_44 : Code := .cond (.tmp 47) c10_45 .skip
def c10_42 : Code := .seq (codeN b10 11312279) c10_44
def c10_40 : Code := .seq (codeN b10 5020823) c10_42
def c10_47 : Code := codeN b10 3972247
def c10_39 : Code := .seq c10_40 c10_47
def c10_37 : Code := .seq (codeN b10 1350807) c10_39
def c10_35 : Code := .seq (codeN b10 564375) c10_37
def c10_48 : Code := codeN b10 236695
def c10_33 : Code := .seq (.block 3 c10_35) c10_48
def c10_27 : Code := .seq c10_28 c10_33
def c10_26 : Code := .loop c10_27
def c10_25 : Code := .block 2 c10_26
def c10_23 : Code := .seq (codeN b10 11415) c10_25
def c10_21 : Code := .seq (codeN b10 5271) c10_23
def c10_19 : Code := .seq (codeN b10 2199) c10_21
def c10_49 : Code := codeN b10 919
theorem e10_49 : evK gS fi10 c10_49 fr st k = opsR gS fi10 [mv 20 7 3,
 op1 21 (.binOp .add 3 (.tmp 20) (.const (.int .i64 1)) 3) 3,
 asn 7 21 3] fr st k := evK_r 5 (by kernel_rfl)
def c10_17 : Code := .seq (.block 1 c10_19) c10_49
def c10_11 : Code := .seq c10_12 c10_17
def c10_10 : Code := .loop c10_11
def c10_9 : Code := .block 0 c10_10
def c10_7 : Code := .seq (codeN b10 39) c10_9
def c10_50 : Code := .seq (codeN b10 47) .ret
def c10_6 : Code := .seq c10_7 c10_50
def c10_4 : Code := .seq (codeN b10 11) c10_6
def c10_2 : Code := .seq (codeN b10 5) c10_4
def c10_0 : Code := .seq (codeN b10 2) c10_2
theorem E10 : evK gS fi10 c10_14 fr st k = condK gS fi10 (fr.op (.tmp 19)).bool? .skip (.exit 0) fr st k ∧
 (evK gS fi10 c10_12 fr st k = opsR gS fi10 [mv 18 7 3,
 op1 19 (.binOp .leq 3 (.tmp 18) (.const (.int .i64 6)) 3) 4] fr st (.seq c10_14 k)) ∧
 evK gS fi10 c10_30 fr st k = condK gS fi10 (fr.op (.tmp 30)).bool? .skip (.exit 2) fr st k ∧
 (evK gS fi10 c10_28 fr st k = opsR gS fi10 [mv 29 10 3,
 op1 30 (.binOp .gtr 3 (.tmp 29) (.const (.int .i64 0)) 3) 4] fr st (.seq c10_30 k)) ∧
 (evK gS fi10 c10_45 fr st k = opsR gS fi10 [mv 48 6 77,
 mv 49 12 3,
 ixa 50 77 48 49 0,
 ld 51 29 50 29,
 cal 52 48 [(.tmp 51)] [29] 29,
 op1 53 (.fieldAddr 31 (.tmp 11) 3) 0,
 sto 29 53 52] fr st k) ∧
 evK gS fi10 c10_44 fr st k = condK gS fi10 (fr.op (.tmp 47)).bool? c10_45 .skip fr st k ∧
 (evK gS fi10 c10_42 fr st k = opsR gS fi10 [mv 46 12 3,
 op1 47 (.binOp .lss 3 (.tmp 46) (.const (.int .i64 3)) 3) 4] fr st (.seq c10_44 k)) ∧
 (evK gS fi10 c10_40 fr st k = opsR gS fi10 [mv 44 0 23,
 cal 45 11 [(.tmp 44),(.const (.int .i64 6))] [23,3] 3,
 asn 12 45 3] fr st (.seq c10_42 k)) ∧
 (evK gS fi10 c10_47 fr st k = opsR gS fi10 [mv 54 5 26,
 ld 55 31 11 31,
 op1 56 (.buildSlice 26 1 #[(0,(.tmp 55))]) 26,
 op1 57 (.call { callee := (.builtin .append),args := #[(.tmp 54),(.tmp 56)],argTypes := #[26,26] }) 26,
 asn 5 57 26] fr st k) ∧
 evK gS fi10 c10_39 fr st k = evK gS fi10 c10_40 fr st (.seq c10_47 k) ∧
 (evK gS fi10 c10_37 fr st k = opsR gS fi10 [mv 38 7 3,
 mv 39 8 3,
 mv 40 9 3,
 mv 41 0 23,
 cal 42 40 [(.tmp 41)] [23] 29,
 op1 43 (.build 31 #[(0,(.tmp 38)),(1,(.tmp 39)),(2,(.tmp 40)),(3,(.tmp 42))]) 31,
 op1 11 (.alloc 31) 0,
 sto 31 11 43] fr st (.seq c10_39 k)) ∧
 (evK gS fi10 c10_35 fr st k = opsR gS fi10 [mv 33 9 3,
 op1 34 (.binOp .add 3 (.tmp 33) (.const (.int .i64 1)) 3) 3,
 mv 35 0 23,
 cal 36 11 [(.tmp 35),(.const (.int .i64 2))] [23,3] 3,
 bop 37 .add 3 34 36 3 3,
 asn 9 37 3] fr st (.seq c10_37 k)) ∧
 (evK gS fi10 c10_48 fr st k = opsR gS fi10 [mv 31 10 3,
 op1 32 (.binOp .sub 3 (.tmp 31) (.const (.int .i64 1)) 3) 3,
 asn 10 32 3] fr st k) ∧
 evK gS fi10 c10_33 fr st k = evK gS fi10 c10_35 fr st (.blk 3 (.seq c10_48 k)) ∧
 evK gS fi10 c10_27 fr st k = evK gS fi10 c10_28 fr st (.seq c10_33 k) ∧
 evK gS fi10 c10_25 fr st k = evK gS fi10 c10_26 fr st (.blk 2 k) ∧
 (evK gS fi10 c10_23 fr st k = opsR gS fi10 [mv 27 0 23,
 cal 28 11 [(.tmp 27),(.const (.int .i64 4))] [23,3] 3,
 asn 10 28 3] fr st (.seq c10_25 k)) ∧
 evK gS fi10 c10_21 fr st k = opsR gS fi10 [op1 9 (.assign (.const (.int .i64 0))) 3] fr st (.seq c10_23 k) ∧
 (evK gS fi10 c10_19 fr st k = opsR gS fi10 [mv 22 0 23,
 mv 23 1 22,
 len1 24 23 22 3,
 op1 25 (.binOp .add 3 (.tmp 24) (.const (.int .i64 1)) 3) 3,
 cal 26 11 [(.tmp 22),(.tmp 25)] [23,3] 3,
 asn 8 26 3] fr st (.seq c10_21 k)) ∧
 evK gS fi10 c10_17 fr st k = evK gS fi10 c10_19 fr st (.blk 1 (.seq c10_49 k)) ∧
 evK gS fi10 c10_11 fr st k = evK gS fi10 c10_12 fr st (.seq c10_17 k) ∧
 evK gS fi10 c10_9 fr st k = evK gS fi10 c10_10 fr st (.blk 0 k) ∧
 evK gS fi10 c10_7 fr st k = opsR gS fi10 [op1 7 (.assign (.const (.int .i64 1))) 3] fr st (.seq c10_9 k) ∧
 (evK gS fi10 c10_50 fr st k = opsR gS fi10 [mv 58 5 26,
 asn 4 58 26] fr st (.seq .ret k)) ∧
 evK gS fi10 c10_6 fr st k = evK gS fi10 c10_7 fr st (.seq c10_50 k) ∧
 (evK gS fi10 c10_4 fr st k = opsR gS fi10 [mv 13 0 23,
 cal 14 40 [(.tmp 13)] [23] 29,
 mv 15 0 23,
 cal 16 40 [(.tmp 15)] [23] 29,
 op1 17 (.buildSlice 77 3 #[(0,(.tmp 14)),(1,(.tmp 16)),(2,(.const (.slice none 0 0)))]) 77,
 asn 6 17 77] fr st (.seq c10_6 k)) ∧
 evK gS fi10 c10_2 fr st k = opsR gS fi10 [op1 5 (.assign (.const (.slice none 0 0))) 26] fr st (.seq c10_4 k) ∧
 evK gS fi10 c10_0 fr st k = opsR gS fi10 [op1 4 (.assign (.const (.slice none 0 0))) 26] fr st (.seq c10_2 k) := ⟨rfl,evK_rs 4 rfl (by kernel_rfl),rfl,evK_rs 9 rfl (by kernel_rfl),evK_r 15 (by kernel_rfl),rfl,evK_rs 14 rfl (by kernel_rfl),evK_rs 13 rfl (by kernel_rfl),evK_r 16 (by kernel_rfl),rfl,evK_rs 12 rfl (by kernel_rfl),evK_rs 11 rfl (by kernel_rfl),evK_r 10 (by kernel_rfl),rfl,rfl,rfl,evK_rs 8 rfl (by kernel_rfl),evK_rs 7 rfl (by kernel_rfl),evK_rs 6 rfl (by kernel_rfl),rfl,rfl,rfl,evK_rs 3 rfl (by kernel_rfl),evK_rs 17 rfl (by kernel_rfl),rfl,evK_rs 2 rfl (by kernel_rfl),evK_rs 1 rfl (by kernel_rfl),evK_rs 0 rfl (by kernel_rfl)⟩
theorem m10 : mini fi10.body = c10_0 := by kernel_rfl
theorem n10_26 (fr : Fr) (st : St) (k : Kt) : nextK gS fi10 (.loop c10_27 k) .normal fr st = evK gS fi10 c10_26 fr st k := rfl
theorem n10_10 (fr : Fr) (st : St) (k : Kt) : nextK gS fi10 (.loop c10_11 k) .normal fr st = evK gS fi10 c10_10 fr st k := rfl
set_option maxHeartbeats 8000000 in
theorem L10_26 (l : List Int) (a id : Nat) (ha : a < 549755813888) (st : St) (h : FeedOk st id) (ps : List Int) (fs : List (List Pred)) (hfs : ∀ f ∈ fs,PSm f) (hfl : fs.length = 3) (c home : Int) (R : Out × St) : ∀ (r j m k : Nat) (num : Int) (out : List Sub) (e11 e12 : E) (T : List (Nat × E)) (X : List (Nat × List V)) (h11 : e11.Tame) (h12 : e12.Tame),out.length + r < 1000 → 0 ≤ num → num + 2 * r < 1000000 → j + 36 * r < 549755800000 →
    (∀ e9 e11 e12 T X,e9.Tame → e11.Tame → e12.Tame → evK gS fi10 c10_49 { ps := [(0,.val (.ptr id 0)),(1,.val (.slice (intVs ps))),(4,.own 0 []),(5,(rowE st (subsI2 l a fs c home r num j m k out).2.2.1 (subsI2 l a fs c home r num j m k out).1)),(6,.own 1 (encPredss fs)),(7,.val (.int .i64 c)),(8,.val (.int .i64 home)),(9,e9),(10,.val (.int .i64 0)),(11,e11),(12,e12)],ts := T,lc := X } (setF (rowS st (subsI2 l a fs c home r num j m k out).2.2.1 (subsI2 l a fs c home r num j m k out).2.2.2 (subsI2 l a fs c home r num j m k out).1) id l (nA l a (subsI2 l a fs c home r num j m k out).2.1)) (.loop c10_11 (.blk 0 (.seq c10_50 .nil))) = some R) →
    evK gS fi10 c10_26 { ps := [(0,.val (.ptr id 0)),(1,.val (.slice (intVs ps))),(4,.own 0 []),(5,(rowE st m out)),(6,.own 1 (encPredss fs)),(7,.val (.int .i64 c)),(8,.val (.int .i64 home)),(9,.val (.int .i64 num)),(10,.val (.int .i64 (r : Nat))),(11,e11),(12,e12)],ts := T,lc := X } (setF (rowS st m k out) id l (nA l a j)) (.blk 2 (.blk 1 (.seq c10_49 (.loop c10_11 (.blk 0 (.seq c10_50 .nil)))))) = some R := by
  intro r
  have hm : fi10.marks = [57] := rfl
  have hl : fi10.locals = [11] := rfl
  have hr : fi10.results = [.tmp 4] := rfl
  induction r with
  | zero =>
    intro j m k num out e11 e12 T X h11 h12 hol hn0 hn1 hj H
    rw [show subsI2 l a fs c home 0 num j m k out = (out,j,m,k) from rfl] at H
    have hE := rowE_firm st m out
    refine evK_loop c10_27 _ _ _ _ rfl ?_
    generalize rowE st m out = E5 at *
    simp (config := { implicitDefEqProofs := false }) [-St.obj,-St.set,h11,h12,hE,-Int.not_le,-Int.not_lt,-Nat.not_le,-Nat.not_lt,ty3,ty4,ty22,ty23,ty26,ty29,ty31,ty77,hm,hl,hr,E10,n10_26,n10_10]
    exact H _ _ _ _ _ (tame_val _) h11 h12
  | succ r ih =>
    intro j m k num out e11 e12 T X h11 h12 hol hn0 hn1 hj H
    have hb2 := fd_bound l a j (n := 2) (by omega)
    have k1 := fun fr => k11 l a j id 2 fr (rowS st m k out) (rowS_ok h m k out) ha (by omega) (by omega)
    have k2 := fun fr => k40 l a (j + 1) id fr (rowS st m k out) (rowS_ok h m k out) ha (by omega)
    rw [dd_rowS] at k2
    have hfa := filterV_asks l a (j + 1)
    have hff := filterV_ffv l a (j + 1)
    simp only [subsI2] at H
    have k3 := fun fr => k11 l a (filterV l a (j + 1)).2.1 id 6 fr (rowS st m (k + (filterV l a (j + 1)).2.2) out) (rowS_ok h m _ out) ha (by omega) (by omega)
    have hb6 := fd_bound l a (filterV l a (j + 1)).2.1 (n := 6) (by omega)
    have IH := fun out' (ho : out'.length = out.length + 1) e11 e12 T X h11 h12 => ih ((filterV l a (j + 1)).2.1 + 1) (m + (k + (filterV l a (j + 1)).2.2) + (if out = [] then 0 else 1)) 0 (num + 1 + fd l a j 2) out' e11 e12 T X h11 h12 (by omega) (by omega) (by omega) (by omega)
    generalize filterV l a (j + 1) = F at *
    obtain ⟨f,J,D⟩ := F
    simp only at k2 k3 hfa hff hb6 H IH
    have hpf := psm_ffv hff
    generalize hz : fd l a J 6 = z at *
    generalize fd l a j 2 = y at *
    have hw1 : IntKind.wrap .i64 (num + 1) = num + 1 := wrap64 (by omega) (by omega)
    have hw2 : IntKind.wrap .i64 (num + 1 + y) = num + 1 + y := wrap64 (by omega) (by omega)
    have hw3 : IntKind.wrap .i64 (((r + 1 : Nat) : Int) - 1) = (r : Int) := by rw [wrap64 (by omega) (by omega)]; omega
    have hpos : (0 : Int) < ((r + 1 : Nat) : Int) := by omega
    have b1 : (out.length + 1) * 48 ≤ 140737488355328 := by omega
    have b2 : out.length + 1 ≤ 140737488355328 := by omega
    refine evK_loop c10_27 _ _ _ _ rfl ?_
    by_cases hz3 : z < 3
    · rw [if_pos hz3] at H
      obtain ⟨q,rfl⟩ : ∃ q : Nat,z = (q : Int) := ⟨z.toNat,by omega⟩
      rw [Int.toNat_natCast] at H
      have hq : q < fs.length := by omega
      have hqi : (q : Int) < (fs.length : Int) := by omega
      obtain ⟨x,hx⟩ : ∃ x,fs[q]? = some x := ⟨fs[q]'hq,List.getElem?_eq_getElem hq⟩
      have hxe : fs[q]'hq = x := (List.getElem?_eq_some_iff.1 hx).2
      have hgd : fs.getD q [] = x := by rw [List.getD_eq_getElem?_getD,hx]; rfl
      rw [hgd] at H
      have hpx := hfs x (List.mem_of_getElem? hx)
      have k4 := fun fr st => k48 x hpx fr st
      have XX := IH (out ++ [⟨c,home,num + 1 + y,x⟩]) (by simp)
      have IHx := fun e11 e12 T X h11 h12 => XX e11 e12 T X h11 h12 H
      have hkk : ¬ (kof 13 x = 0 ∧ ¬ encPreds x = []) := by
        unfold kof; split
        · rename_i h; rw [h]; simp [encPreds]
        · simp
      generalize kof 13 x = kx at *
      clear XX IH ih H
      have hE := rowE_firm st m out
      by_cases ho : out = []
      · subst ho
        have r3 : ∀ fr k' len cs,newRef fr (setF (rowS st m (k + D) []) id l (nA l a (J + 1))) k' len cs = .ok (.val (.sref false k' (st.objs.length + (m + (k + D))) 0 len)) fr (setF (nw st (m + (k + D)) cs) id l (nA l a (J + 1))) := fun fr k' len cs => newRef_dd h fr (m + (k + D)) k' len cs l (nA l a (J + 1))
        rw [if_pos rfl,Nat.add_zero,← rowS_new,rowE_ne (by simp)] at IHx
        rw [rowE_nil]
        simp only [List.nil_append,List.flatMap_cons,List.flatMap_nil,List.append_nil,Sub.cells,List.length_singleton] at IHx
        simp (config := { implicitDefEqProofs := false }) [-Int.natCast_add,-St.obj,-St.set,h11,h12,k1,k2,k3,k4,hz3,hq,hqi,hx,hxe,hkk,hw1,hw2,hw3,hpos,r3,markStep,markAppend,elemsAt,-Int.not_le,-Int.not_lt,-Nat.not_le,-Nat.not_lt,ty3,ty4,ty22,ty23,ty26,ty29,ty31,ty77,hm,hl,hr,E10,n10_26,n10_10]
        refine IHx _ _ _ _ ?_ ?_
        all_goals simp [h11,h12]
      · have r1 : St.obj (setF (rowS st m (k + D) out) id l (nA l a (J + 1))) (st.objs.length + m) = some (out.flatMap Sub.cells) := by rw [rowS_ne ho]; exact obj_mid h m (k + D) _ l _
        have r2 : St.set (setF (rowS st m (k + D) out) id l (nA l a (J + 1))) (st.objs.length + m) [] = some (setF (dd st (m + (k + D) + 1)) id l (nA l a (J + 1))) := by
          rw [rowS_ne ho,show m + (k + D) + 1 = m + 1 + (k + D) from by omega]; exact set_mid h m (k + D) _ l _
        have r3 := fun fr k' len cs => newRef_dd h fr (m + (k + D) + 1) k' len cs l (nA l a (J + 1))
        rw [if_neg ho,← rowS_new,rowE_ne (by simp),← scells_snoc] at IHx
        simp only [List.length_append,List.length_singleton] at IHx
        rw [rowE_ne ho] at hE ⊢
        have q1 := scells_len out
        have q2 := scells_one out
        have q3 := scells_strip out
        have q0 : 0 < out.length := List.length_pos_iff.2 ho
        have q5 : ¬ out.length = 0 := by omega
        generalize out.flatMap Sub.cells = CC at *
        simp (config := { implicitDefEqProofs := false }) [-Int.natCast_add,-St.obj,-St.set,h11,h12,k1,k2,k3,k4,hz3,hq,hqi,hx,hxe,hkk,hw1,hw2,hw3,hpos,ho,r1,r2,r3,q0,q1,q2,q3,q5,b1,b2,markStep,markAppend,elemsAt,-Int.not_le,-Int.not_lt,-Nat.not_le,-Nat.not_lt,ty3,ty4,ty22,ty23,ty26,ty29,ty31,ty77,hm,hl,hr,E10,n10_26,n10_10]
        refine IHx _ _ _ _ ?_ ?_
        all_goals simp [h11,h12]
    · rw [if_neg hz3] at H
      have XX := IH (out ++ [⟨c,home,num + 1 + y,f⟩]) (by simp)
      have IHx := fun e11 e12 T X h11 h12 => XX e11 e12 T X h11 h12 H
      clear XX IH ih H
      have hE := rowE_firm st m out
      by_cases ho : out = []
      · subst ho
        have r3 : ∀ fr k' len cs,newRef fr (setF (rowS st m (k + D) []) id l (nA l a (J + 1))) k' len cs = .ok (.val (.sref false k' (st.objs.length + (m + (k + D))) 0 len)) fr (setF (nw st (m + (k + D)) cs) id l (nA l a (J + 1))) := fun fr k' len cs => newRef_dd h fr (m + (k + D)) k' len cs l (nA l a (J + 1))
        rw [if_pos rfl,Nat.add_zero,← rowS_new,rowE_ne (by simp)] at IHx
        rw [rowE_nil]
        simp only [List.nil_append,List.flatMap_cons,List.flatMap_nil,List.append_nil,Sub.cells,List.length_singleton] at IHx
        simp (config := { implicitDefEqProofs := false }) [-Int.natCast_add,-St.obj,-St.set,h11,h12,k1,k2,k3,hz3,hw1,hw2,hw3,hpos,r3,markStep,markAppend,elemsAt,-Int.not_le,-Int.not_lt,-Nat.not_le,-Nat.not_lt,ty3,ty4,ty22,ty23,ty26,ty29,ty31,ty77,hm,hl,hr,E10,n10_26,n10_10]
        refine IHx _ _ _ _ ?_ ?_
        all_goals simp [h11,h12]
      · have r1 : St.obj (setF (rowS st m (k + D) out) id l (nA l a (J + 1))) (st.objs.length + m) = some (out.flatMap Sub.cells) := by rw [rowS_ne ho]; exact obj_mid h m (k + D) _ l _
        have r2 : St.set (setF (rowS st m (k + D) out) id l (nA l a (J + 1))) (st.objs.length + m) [] = some (setF (dd st (m + (k + D) + 1)) id l (nA l a (J + 1))) := by
          rw [rowS_ne ho,show m + (k + D) + 1 = m + 1 + (k + D) from by omega]; exact set_mid h m (k + D) _ l _
        have r3 := fun fr k' len cs => newRef_dd h fr (m + (k + D) + 1) k' len cs l (nA l a (J + 1))
        rw [if_neg ho,← rowS_new,rowE_ne (by simp),← scells_snoc] at IHx
        simp only [List.length_append,List.length_singleton] at IHx
        rw [rowE_ne ho] at hE ⊢
        have q1 := scells_len out
        have q2 := scells_one out
        have q3 := scells_strip out
        have q0 : 0 < out.length := List.length_pos_iff.2 ho
        have q5 : ¬ out.length = 0 := by omega
        generalize out.flatMap Sub.cells = CC at *
        simp (config := { implicitDefEqProofs := false }) [-Int.natCast_add,-St.obj,-St.set,h11,h12,k1,k2,k3,hz3,hw1,hw2,hw3,hpos,ho,r1,r2,r3,q0,q1,q2,q3,q5,b1,b2,markStep,markAppend,elemsAt,-Int.not_le,-Int.not_lt,-Nat.not_le,-Nat.not_lt,ty3,ty4,ty22,ty23,ty26,ty29,ty31,ty77,hm,hl,hr,E10,n10_26,n10_10]
        refine IHx _ _ _ _ ?_ ?_
        all_goals simp [h11,h12]
set_option maxHeartbeats 8000000 in
theorem L10_10 (l : List Int) (a id : Nat) (ha : a < 549755813888) (st : St) (h : FeedOk st id) (ps : List Int) (fs : List (List Pred)) (hfs : ∀ f ∈ fs,PSm f) (hfl : fs.length = 3) (hps : ps.length < 1000) : ∀ (r j m k : Nat) (c : Int) (out : List Sub) (e8 e9 e10 e11 e12 : E) (T : List (Nat × E)) (X : List (Nat × List V)) (h8 : e8.Tame) (h9 : e9.Tame) (h10 : e10.Tame) (h11 : e11.Tame) (h12 : e12.Tame),r ≤ 6 → c = 7 - r → out.length ≤ 3 * (6 - r) → j + 110 * r < 549755700000 →
    evK gS fi10 c10_10 { ps := [(0,.val (.ptr id 0)),(1,.val (.slice (intVs ps))),(4,.own 0 []),(5,(rowE st m out)),(6,.own 1 (encPredss fs)),(7,.val (.int .i64 c)),(8,e8),(9,e9),(10,e10),(11,e11),(12,e12)],ts := T,lc := X } (setF (rowS st m k out) id l (nA l a j)) (.blk 0 (.seq c10_50 .nil)) = some (rowOut st (subsO2 l a ps.length fs r c j m k out).2.2.1 (subsO2 l a ps.length fs r c j m k out).1,setF (rowS st (subsO2 l a ps.length fs r c j m k out).2.2.1 (subsO2 l a ps.length fs r c j m k out).2.2.2 (subsO2 l a ps.length fs r c j m k out).1) id l (nA l a (subsO2 l a ps.length fs r c j m k out).2.1)) := by
  intro r
  have hm : fi10.marks = [57] := rfl
  have hl : fi10.locals = [11] := rfl
  have hr : fi10.results = [.tmp 4] := rfl
  induction r with
  | zero =>
    intro j m k c out e8 e9 e10 e11 e12 T X h8 h9 h10 h11 h12 hr6 hc ho hj
    rw [show subsO2 l a ps.length fs 0 c j m k out = (out,j,m,k) from rfl]
    obtain rfl : c = 7 := by omega
    refine evK_loop c10_11 _ _ _ _ rfl ?_
    by_cases hn : out = []
    · subst hn
      rw [rowE_nil,rowOut_nil]
      simp (config := { implicitDefEqProofs := false }) [-St.obj,-St.set,h8,h9,h10,h11,h12,-Int.not_le,-Int.not_lt,-Nat.not_le,-Nat.not_lt,ty3,ty4,ty22,ty23,ty26,ty29,ty31,ty77,hm,hl,hr,E10,e10_49,n10_26,n10_10]
    · rw [rowE_ne hn,rowOut_ne hn]
      simp (config := { implicitDefEqProofs := false }) [-St.obj,-St.set,h8,h9,h10,h11,h12,-Int.not_le,-Int.not_lt,-Nat.not_le,-Nat.not_lt,ty3,ty4,ty22,ty23,ty26,ty29,ty31,ty77,hm,hl,hr,E10,e10_49,n10_26,n10_10]
  | succ r ih =>
    intro j m k c out e8 e9 e10 e11 e12 T X h8 h9 h10 h11 h12 hr6 hc ho hj
    have k1 := fun fr => k11 l a j id ((ps.length : Int) + 1) fr (rowS st m k out) (rowS_ok h m k out) ha (by omega) (by omega)
    have k2 := fun fr => k11 l a (j + 1) id 4 fr (rowS st m k out) (rowS_ok h m k out) ha (by omega) (by omega)
    have hb := fd_bound l a (j + 1) (n := 4) (by omega)
    simp only [subsO2]
    have hw1 : IntKind.wrap .i64 ((ps.length : Int) + 1) = (ps.length : Int) + 1 := wrap64 (by omega) (by omega)
    have hwc : IntKind.wrap .i64 (c + 1) = c + 1 := wrap64 (by omega) (by omega)
    have hc6 : c ≤ 6 := by omega
    generalize fd l a j (ps.length + 1) = home at *
    generalize hz : fd l a (j + 1) 4 = z at *
    obtain ⟨q,rfl⟩ : ∃ q : Nat,z = (q : Int) := ⟨z.toNat,by omega⟩
    rw [Int.toNat_natCast]
    have hsa := subsI_asks l a fs c home q 0 (j + 2) 0 out
    have hse := subsI2_eq l a fs c home q 0 (j + 2) m k 0 out
    rw [← hse.1,← hse.2] at hsa
    have LI := fun R e11 e12 T X h11 h12 => L10_26 l a id ha st h ps fs hfs hfl c home R q (j + 2) m k 0 out e11 e12 T X h11 h12 (by omega) (by omega) (by omega) (by omega)
    generalize subsI2 l a fs c home q 0 (j + 2) m k out = I at *
    obtain ⟨out2,J,M,KK⟩ := I
    simp only at hsa LI ⊢
    have IH := fun e8 e9 e10 e11 e12 T X h8 h9 h10 h11 h12 => ih J M KK (c + 1) out2 e8 e9 e10 e11 e12 T X h8 h9 h10 h11 h12 (by omega) (by omega) (by omega) (by omega)
    generalize hR : (rowOut st (subsO2 l a ps.length fs r (c + 1) J M KK out2).2.2.1 (subsO2 l a ps.length fs r (c + 1) J M KK out2).1,setF (rowS st (subsO2 l a ps.length fs r (c + 1) J M KK out2).2.2.1 (subsO2 l a ps.length fs r (c + 1) J M KK out2).2.2.2 (subsO2 l a ps.length fs r (c + 1) J M KK out2).1) id l (nA l a (subsO2 l a ps.length fs r (c + 1) J M KK out2).2.1)) = R at IH ⊢
    have H49 : ∀ e9 e11 e12 T X,e9.Tame → e11.Tame → e12.Tame → evK gS fi10 c10_49 { ps := [(0,.val (.ptr id 0)),(1,.val (.slice (intVs ps))),(4,.own 0 []),(5,(rowE st M out2)),(6,.own 1 (encPredss fs)),(7,.val (.int .i64 c)),(8,.val (.int .i64 home)),(9,e9),(10,.val (.int .i64 0)),(11,e11),(12,e12)],ts := T,lc := X } (setF (rowS st M KK out2) id l (nA l a J)) (.loop c10_11 (.blk 0 (.seq c10_50 .nil))) = some R := by
      intro e9 e11 e12 T X h9 h11 h12
      have hE := rowE_firm st M out2
      generalize rowE st M out2 = E5 at *
      simp (config := { implicitDefEqProofs := false }) [-Int.natCast_add,-St.obj,-St.set,h9,h11,h12,hE,hwc,-Int.not_le,-Int.not_lt,-Nat.not_le,-Nat.not_lt,ty3,ty4,ty22,ty23,ty26,ty29,ty31,ty77,hm,hl,hr,E10,e10_49,n10_26,n10_10]
      exact IH _ _ _ _ _ _ _ (tame_val _) h9 (tame_val _) h11 h12
    have LL := fun e11 e12 T X h11 h12 => LI R e11 e12 T X h11 h12 H49
    clear LI H49 IH ih
    have hE := rowE_firm st m out
    refine evK_loop c10_11 _ _ _ _ rfl ?_
    generalize rowE st m out = E5 at *
    simp (config := { implicitDefEqProofs := false }) [-Int.natCast_add,-St.obj,-St.set,h8,h9,h10,h11,h12,hE,k1,k2,hw1,hc6,-Int.not_le,-Int.not_lt,-Nat.not_le,-Nat.not_lt,ty3,ty4,ty22,ty23,ty26,ty29,ty31,ty77,hm,hl,hr,E10,e10_49,n10_26,n10_10]
    exact LL _ _ _ _ h11 h12
set_option maxHeartbeats 8000000 in
theorem c10 (l : List Int) (a j id : Nat) (st : St) (h : FeedOk st id) (ha : a < 549755813888) (hj : j < 549755600000) (ps : List Int) (hps : ps.length < 1000) :
    EvF gS 10 [.ptr id 0,.slice (intVs ps)] (setF st id l (nA l a j)) = some (rowOut st (subsW l a j ps.length).2.2.1 (subsW l a j ps.length).1,setF (rowS st (subsW l a j ps.length).2.2.1 (subsW l a j ps.length).2.2.2 (subsW l a j ps.length).1) id l (nA l a (subsW l a j ps.length).2.1)) := by
  refine EvF_start fi53_eq (fun x h => by cases h) m10 ?_
  rw [st10]
  have hm : fi10.marks = [57] := rfl
  have hl : fi10.locals = [11] := rfl
  have hr : fi10.results = [.tmp 4] := rfl
  have k1 := fun fr => k40 l a j id fr st h ha (by omega)
  have a1 := filterV_asks l a j
  have k2 := fun fr => k40 l a (filterV l a j).2.1 id fr (dd st (filterV l a j).2.2) (h.dd _) ha (by omega)
  rw [dd_dd] at k2
  have a2 := filterV_asks l a (filterV l a j).2.1
  have q1 := filterV_ffv l a j
  have q2 := filterV_ffv l a (filterV l a j).2.1
  unfold subsW subsF
  generalize filterV l a (filterV l a j).2.1 = B at *
  generalize filterV l a j = A at *
  obtain ⟨f1,J1,D1⟩ := A
  obtain ⟨f2,J2,D2⟩ := B
  simp only at k1 k2 a1 a2 q1 q2 ⊢
  have hfs : ∀ f ∈ [f1,f2,[]],PSm f := fun f hf => by
    simp at hf
    rcases hf with rfl | rfl | rfl
    · exact psm_ffv q1
    · exact psm_ffv q2
    · exact ⟨by simp,by simp⟩
  have LL := fun e8 e9 e10 e11 e12 T X h8 h9 h10 h11 h12 => L10_10 l a id ha st h ps [f1,f2,[]] hfs rfl hps 6 J2 0 (D1 + D2) 1 [] e8 e9 e10 e11 e12 T X h8 h9 h10 h11 h12 (Nat.le_refl _) rfl (Nat.le_refl _) (by omega)
  rw [rowE_nil,rowS_nil,Nat.zero_add,show encPredss [f1,f2,[]] = [.slice (encPreds f1),.slice (encPreds f2),.slice []] from rfl] at LL
  generalize subsO2 l a ps.length [f1,f2,[]] 6 1 J2 0 (D1 + D2) [] = O at LL ⊢
  generalize hR : (rowOut st O.2.2.1 O.1,setF (rowS st O.2.2.1 O.2.2.2 O.1) id l (nA l a O.2.1)) = R at LL ⊢
  simp (config := { implicitDefEqProofs := false }) [-St.obj,-St.set,k1,k2,-Int.not_le,-Int.not_lt,-Nat.not_le,-Nat.not_lt,ty3,ty4,ty22,ty23,ty26,ty29,ty31,ty77,hm,hl,hr,E10,e10_49,n10_26,n10_10]
  exact LL _ _ _ _ _ _ _ tame_any tame_any tame_any tame_any tame_any
theorem k10 (l : List Int) (a j id : Nat) (fr : Fr) (st : St) (h : FeedOk st id) (ha : a < 549755813888) (hj : j < 549755600000) (ps : List Int) (hps : ps.length < 1000) :
    callStep gS (EvF gS) 10 [.ptr id 0,.slice (intVs ps)] fr (setF st id l (nA l a j)) = some (.ok (rowE st (subsW l a j ps.length).2.2.1 (subsW l a j ps.length).1) (fr.map E.noMem) (setF (rowS st (subsW l a j ps.length).2.2.1 (subsW l a j ps.length).2.2.2 (subsW l a j ps.length).1) id l (nA l a (subsW l a j ps.length).2.1))) := by
  unfold callStep
  simp only [show gS.ext 10 = none from rfl,fi53_eq,show fi10.pure = false from rfl,Bool.false_eq_true,if_false,c10 l a j id st h ha hj ps hps]
  generalize subsW l a j ps.length = O
  by_cases ho : O.1 = []
  · rw [ho,rowOut_nil,rowE_nil]; rfl
  · rw [rowOut_ne ho,rowE_ne ho]; rfl
end
end Go.Proofs.Ytdoobejjedpcgaa
namespace Go.Ab
open Go
def atG (f : List Pred) : List Grp → Nat
  | [] => 0
  | x :: r => if fsame x.filter f then 0 else atG f r + 1
def grpStep (out : List Grp) (s : Sub) : List Grp :=
  match out[atG s.filter out]? with
  | some x => out.set (atG s.filter out) ⟨x.filter,layI x.clients s.client⟩
  | none => out ++ [⟨s.filter,layI [] s.client⟩]
def fstsG (l : List Sub) : Nat → List Sub → List Sub
  | _,[] => []
  | i,s :: r => (if fstOf l i s then [s] else []) ++ fstsG l (i + 1) r
def fsts (l : List Sub) : List Sub := fstsG l 0 l
theorem gofG_map (l : List Sub) : ∀ (r : List Sub) (i : Nat) (out : List Grp),gofG l i r out = out ++ (fstsG l i r).map fun s => ⟨s.filter,cliOf l s⟩
  | [],i,out => by simp [gofG,fstsG]
  | s :: r,i,out => by
    unfold gofG fstsG
    rw [gofG_map l r (i + 1)]
    split <;> simp
theorem gof_map (l : List Sub) : gof l = (fsts l).map fun s => ⟨s.filter,cliOf l s⟩ := by
  unfold gof fsts
  rw [gofG_map]; rfl
theorem fstOf_snoc (l : List Sub) (x : Sub) {i : Nat} (hi : i ≤ l.length) (s : Sub) : fstOf (l ++ [x]) i s = fstOf l i s := by
  unfold fstOf
  rw [List.take_append_of_le_length hi]
theorem fstsG_snoc (l : List Sub) (x : Sub) : ∀ (r : List Sub) (i : Nat),i + r.length ≤ l.length → fstsG (l ++ [x]) i r = fstsG l i r
  | [],_,_ => rfl
  | s :: r,i,h => by
    simp only [List.length_cons] at h
    unfold fstsG
    rw [fstOf_snoc l x (by omega),fstsG_snoc l x r (i + 1) (by omega)]
theorem fstsG_append (l : List Sub) : ∀ (r q : List Sub) (i : Nat),fstsG l i (r ++ q) = fstsG l i r ++ fstsG l (i + r.length) q
  | [],q,i => by simp [fstsG]
  | s :: r,q,i => by
    rw [List.cons_append,show fstsG l i (s :: (r ++ q)) = (if fstOf l i s then [s] else []) ++ fstsG l (i + 1) (r ++ q) from rfl,show fstsG l i (s :: r) = (if fstOf l i s then [s] else []) ++ fstsG l (i + 1) r from rfl]
    rw [fstsG_append l r q (i + 1),List.append_assoc,List.length_cons,show i + 1 + r.length = i + (r.length + 1) from by omega]
theorem fsts_snoc (l : List Sub) (x : Sub) : fsts (l ++ [x]) = fsts l ++ (if fstOf l l.length x then [x] else []) := by
  unfold fsts
  rw [fstsG_append,fstsG_snoc l x l 0 (by omega),Nat.zero_add]
  congr 1
  show (if fstOf (l ++ [x]) l.length x then [x] else []) ++ [] = _
  rw [fstOf_snoc l x (Nat.le_refl _),List.append_nil]
theorem cliOf_snoc (l : List Sub) (x s : Sub) : cliOf (l ++ [x]) s = if fsame s.filter x.filter then layI (cliOf l s) x.client else cliOf l s := by
  unfold cliOf
  rw [List.foldl_append]
  rfl
theorem fstsG_mem (l : List Sub) : ∀ (r : List Sub) (i : Nat),l.drop i = r → ∀ s,s ∈ fstsG l i r ↔ ∃ k,i ≤ k ∧ l[k]? = some s ∧ fstOf l k s = true
  | [],i,h,s => by
    simp only [fstsG,List.not_mem_nil,false_iff,not_exists,not_and]
    intro k h1 h2
    have := List.drop_eq_nil_iff.1 h
    have := (List.getElem?_eq_some_iff.1 h2).1
    omega
  | x :: r,i,h,s => by
    have hx : l[i]? = some x := by
      have : (l.drop i)[0]? = some x := by rw [h]; rfl
      simpa using this
    have hr : l.drop (i + 1) = r := by
      have := congrArg List.tail h
      simpa using this
    unfold fstsG
    rw [List.mem_append,fstsG_mem l r (i + 1) hr s]
    constructor
    · rintro (h1 | ⟨k,h1,h2,h3⟩)
      · split at h1
        · rename_i hf
          simp at h1; subst h1
          exact ⟨i,Nat.le_refl _,hx,hf⟩
        · simp at h1
      · exact ⟨k,by omega,h2,h3⟩
    · rintro ⟨k,h1,h2,h3⟩
      by_cases hk : k = i
      · subst hk
        rw [hx] at h2; cases h2
        rw [if_pos h3]; exact .inl (by simp)
      · exact .inr ⟨k,by omega,h2,h3⟩
theorem snoc_cases : ∀ (l : List Sub),l = [] ∨ ∃ q x,l = q ++ [x]
  | [] => .inl rfl
  | s :: r => by
    rcases snoc_cases r with rfl | ⟨q,x,rfl⟩
    · exact .inr ⟨[],s,rfl⟩
    · exact .inr ⟨s :: q,x,rfl⟩
theorem fsts_apart : ∀ (n : Nat) (l : List Sub),l.length = n → (fsts l).Pairwise fun a b => fsame a.filter b.filter = false
  | 0,l,h => by
    obtain rfl := List.length_eq_zero_iff.1 h
    exact List.Pairwise.nil
  | n + 1,l,h => by
    rcases snoc_cases l with rfl | ⟨l,x,rfl⟩
    · exact List.Pairwise.nil
    rw [List.length_append,List.length_singleton] at h
    have ih := fsts_apart n l (by omega)
    rw [fsts_snoc,List.pairwise_append]
    refine ⟨ih,?_,?_⟩
    · split <;> simp
    · intro a ha b hb
      split at hb
      · rename_i hf
        simp at hb; subst hb
        obtain ⟨k,_,h1,_⟩ := (fstsG_mem l l 0 rfl a).1 ha
        have := fstOf_iff.1 hf k a (List.getElem?_eq_some_iff.1 h1).1 h1
        cases hh : fsame a.filter b.filter with
        | false => rfl
        | true => rw [fsame_symm hh] at this; cases this
      · simp at hb
theorem grpStep_cons {x : Grp} {r : List Grp} {s : Sub} (h : fsame x.filter s.filter = false) : grpStep (x :: r) s = x :: grpStep r s := by
  have ha : atG s.filter (x :: r) = atG s.filter r + 1 := by
    show (if fsame x.filter s.filter then 0 else atG s.filter r + 1) = _
    rw [h]; rfl
  unfold grpStep
  rw [ha,List.getElem?_cons_succ]
  cases r[atG s.filter r]? with
  | none => rfl
  | some y => rfl
theorem grpStep_hit {x : Grp} {r : List Grp} {s : Sub} (h : fsame x.filter s.filter = true) : grpStep (x :: r) s = ⟨x.filter,layI x.clients s.client⟩ :: r := by
  have ha : atG s.filter (x :: r) = 0 := by
    show (if fsame x.filter s.filter then 0 else atG s.filter r + 1) = _
    rw [h]; rfl
  unfold grpStep
  rw [ha]; rfl
theorem step_map (F : Sub → Grp) (x : Sub) : ∀ (L : List Sub),(∀ s,(F s).filter = s.filter) → (L.Pairwise fun a b => fsame a.filter b.filter = false) →
    grpStep (L.map F) x = L.map (fun s => if fsame s.filter x.filter then ⟨s.filter,layI (F s).clients x.client⟩ else F s) ++ (if L.any (fun s => fsame s.filter x.filter) then [] else [⟨x.filter,layI [] x.client⟩])
  | [],_,_ => rfl
  | s :: r,hF,hp => by
    rw [List.pairwise_cons] at hp
    rw [List.map_cons,List.map_cons,List.any_cons]
    cases hs : fsame s.filter x.filter with
    | true =>
      rw [grpStep_hit (by rw [hF]; exact hs),hF]
      simp only [Bool.true_or,if_true,List.append_nil]
      congr 1
      refine (List.map_congr_left fun t ht => ?_).symm
      have h1 := hp.1 t ht
      rw [if_neg]
      intro h2
      rw [fsame_trans hs (fsame_symm h2)] at h1; cases h1
    | false =>
      rw [grpStep_cons (by rw [hF]; exact hs),step_map F x r hF hp.2]
      simp
theorem grp_snoc (l : List Sub) (x : Sub) : grpStep (gof l) x = gof (l ++ [x]) := by
  rw [gof_map,gof_map,step_map _ x (fsts l) (fun _ => rfl) (fsts_apart _ l rfl),fsts_snoc,List.map_append]
  have h1 : (fsts l).map (fun s => if fsame s.filter x.filter then (⟨s.filter,layI (cliOf l s) x.client⟩ : Grp) else ⟨s.filter,cliOf l s⟩) = (fsts l).map fun s => ⟨s.filter,cliOf (l ++ [x]) s⟩ := by
    refine List.map_congr_left fun s _ => ?_
    rw [cliOf_snoc]
    split <;> rfl
  rw [h1]
  congr 1
  cases ha : (fsts l).any fun s => fsame s.filter x.filter with
  | true =>
    have hf : fstOf l l.length x = false := by
      cases hf : fstOf l l.length x with
      | false => rfl
      | true =>
        obtain ⟨s,hs,h2⟩ := List.any_eq_true.1 ha
        obtain ⟨k,_,h3,_⟩ := (fstsG_mem l l 0 rfl s).1 hs
        have := fstOf_iff.1 hf k s (List.getElem?_eq_some_iff.1 h3).1 h3
        rw [fsame_symm h2] at this; cases this
    rw [hf]; rfl
  | false =>
    have hno : ∀ t ∈ l,fsame x.filter t.filter = false := fun t ht => by
      cases hh : fsame x.filter t.filter with
      | false => rfl
      | true =>
        obtain ⟨k,s,h1,h2,h3⟩ := first_of ht
        have hs : s ∈ fsts l := (fstsG_mem l l 0 rfl s).2 ⟨k,Nat.zero_le _,h1,h2⟩
        have : (fsts l).any (fun s => fsame s.filter x.filter) = true := List.any_eq_true.2 ⟨s,hs,fsame_trans h3 (fsame_symm hh)⟩
        rw [ha] at this; cases this
    have hf : fstOf l l.length x = true := fstOf_iff.2 fun k t _ h => hno t (List.mem_of_getElem? h)
    have hc : cliOf l x = [] := by
      rw [List.eq_nil_iff_forall_not_mem]
      intro c hc
      obtain ⟨t,ht,h2,_⟩ := cliOf_mem.1 hc
      rw [hno t ht] at h2; cases h2
    rw [hf]
    simp only [Bool.false_eq_true,if_false,if_true,List.map_cons,List.map_nil]
    rw [cliOf_snoc,fsame_rfl,if_pos rfl,hc]
end Go.Ab
namespace Go.Ab
open Go
def rowGS (st : St) (out : List Grp) : St := if out = [] then st else nw st (out.length - 1) (out.flatMap Grp.cells)
def rowGE (st : St) (out : List Grp) : E := if out = [] then .own 0 [] else .val (.sref false 2 (st.objs.length + (out.length - 1)) 0 out.length)
theorem rowGS_ne {st : St} {out : List Grp} (h : out ≠ []) : rowGS st out = nw st (out.length - 1) (out.flatMap Grp.cells) := by unfold rowGS; rw [if_neg h]
theorem rowGE_ne {st : St} {out : List Grp} (h : out ≠ []) : rowGE st out = .val (.sref false 2 (st.objs.length + (out.length - 1)) 0 out.length) := by unfold rowGE; rw [if_neg h]
theorem nw_obj' (st : St) (m : Nat) (cs : List V) : St.obj (nw st m cs) (st.objs.length + m) = some cs := gr_obj st m cs
theorem gcells_len (x : Grp) : (Grp.cells x).length = 2 := rfl
theorem grow_len (l : List Grp) : (l.flatMap Grp.cells).length = l.length * 2 := row_len Grp.cells 2 gcells_len l
theorem grow_one (l : List Grp) : (l.flatMap Grp.cells).all V.one = true := row_one Grp.cells (fun _ => rfl) l
theorem grow_strip (l : List Grp) : (l.flatMap Grp.cells).map V.strip1 = l.flatMap Grp.cells := row_strip Grp.cells Grp.cells (fun _ => rfl) l
theorem grow_get0 {l : List Grp} {i : Nat} {x : Grp} (h : l[i]? = some x) : (l.flatMap Grp.cells)[i * 2]? = some (.slice (encPreds x.filter)) := row_get Grp.cells 2 gcells_len (j := 0) h (by omega)
theorem grow_get1 {l : List Grp} {i : Nat} {x : Grp} (h : l[i]? = some x) : (l.flatMap Grp.cells)[i * 2 + 1]? = some (.slice (intVs x.clients)) := row_get Grp.cells 2 gcells_len (j := 1) h (by omega)
theorem grow_splice {l : List Grp} {i : Nat} {x : Grp} (h : l[i]? = some x) (cs : List Int) : splice (l.flatMap Grp.cells) (i * 2 + 1) [.slice (intVs cs)] = some ((l.set i ⟨x.filter,cs⟩).flatMap Grp.cells) :=
  row_splice Grp.cells 2 gcells_len h rfl
theorem grow_frz {st : St} (hst : st.wp ≤ st.objs.length) {l : List Grp} (hl : l ≠ []) (m : Nat) : frz 6 (nw st m (l.flatMap Grp.cells)) (.sref false 2 (st.objs.length + m) 0 l.length) = some (.slice (encGrps l),dd st (m + 1)) := by
  rw [frz_row 5 (st.objs.length + m) 2 (by omega) Grp.cells Grp.cells gcells_len gcells_len (fun _ => rfl) (fun _ => rfl) (fun x => by simp [flats,V.flat]) l hl (nw_obj' st m _) (nw_kill hst m _)]
  rw [show Nat.blt 1 2 = true from rfl,chunk_enc Grp.cells 2 (by omega) gcells_len l]
  rfl
theorem grow_snoc (l : List Grp) (f : List Pred) : l.flatMap Grp.cells ++ [.slice (encPreds f),.slice []] = (l ++ [(⟨f,[]⟩ : Grp)]).flatMap Grp.cells := by simp [Grp.cells,intVs]
def atR (f : List Pred) : Nat → List Grp → Int → Int
  | _,[],at1 => at1
  | q,x :: r,at1 => atR f (q + 1) r (if at1 < 0 ∧ fsame x.filter f = true then (q : Int) else at1)
theorem atR_keep (f : List Pred) : ∀ (r : List Grp) (q : Nat) (a : Int),0 ≤ a → atR f q r a = a
  | [],_,_,_ => rfl
  | x :: r,q,a,h => by
    unfold atR
    rw [if_neg (by omega)]
    exact atR_keep f r (q + 1) a h
theorem atG_le (f : List Pred) : ∀ (r : List Grp),atG f r ≤ r.length
  | [] => Nat.le_refl _
  | x :: r => by
    have := atG_le f r
    unfold atG
    split
    · omega
    · simp only [List.length_cons]; omega
theorem atR_eq (f : List Pred) : ∀ (r : List Grp) (q : Nat),atR f q r (-1) = if atG f r < r.length then ((q + atG f r : Nat) : Int) else -1
  | [],q => by simp [atR]
  | x :: r,q => by
    unfold atR
    rw [show atG f (x :: r) = if fsame x.filter f then 0 else atG f r + 1 from rfl]
    cases h : fsame x.filter f with
    | true =>
      rw [if_pos ⟨by omega,rfl⟩,atR_keep f r (q + 1) q (by omega)]
      simp
    | false =>
      rw [if_neg (by simp),atR_eq f r (q + 1)]
      simp only [Bool.false_eq_true,if_false,List.length_cons]
      by_cases hl : atG f r < r.length
      · rw [if_pos hl,if_pos (by omega)]; omega
      · rw [if_neg hl,if_neg (by omega)]
end Go.Ab
namespace Go.Proofs.Ytdoobejjedpcgaa
open Go Go.Ab
set_option maxRecDepth 20000
noncomputable section
variable (fr : Fr) (st : St) (k : Kt)
def fi13 : FI := { body := codeOf Try.f13,ntmps := 64,results := [.tmp 2],pers := [0,2,3,4,5,6],locals := [],pure := false,marks := [47,1000000] }
theorem fi55_eq : gS.fn 13 = some fi13 := by kernel_rfl
theorem st13 (a0 : V) : startFr fi13 [a0] = { ps := [(0,.val a0),(2,.any),(3,.any),(4,.any),(5,.any),(6,.any)],ts := [],lc := [] } := rfl
def b13 : Code := mini (codeOf Try.f13)
def c13_12 : Code := .cond (.tmp 10) .skip (.exit 0)
def c13_10 : Code := .seq (codeN b13 267) c13_12
def c13_27 : Code := .cond (.tmp 16) .skip (.exit 2)
def c13_25 : Code := .seq (codeN b13 68171) c13_27
def r13_33 : Array Oper := regOps (codeN (codeOf Try.f13) 281163)
def c13_33 : Code := .region 9 r13_33 true
def q13_33 : List (Oper × Fl) := [(mv 19 5 3,⟨true,true,true,false,true,false,true,true,false,false,[]⟩),
 (op1 20 (.binOp .lss 3 (.tmp 19) (.const (.int .i64 0)) 3) 4,⟨true,true,true,false,true,false,true,true,false,false,[]⟩),
 (mv 21 20 4,⟨true,true,true,false,true,false,true,true,false,false,[]⟩),
 (mk (some 22) (.move (.tmp 3)) 34 (some (2,true)),⟨true,false,true,false,false,false,true,true,false,false,[]⟩),
 (mk (some 23) (.move (.tmp 6)) 3 (some (2,true)),⟨true,false,true,false,false,false,true,true,false,false,[]⟩),
 (mk (some 24) (.indexAddr 34 (.tmp 22) (.tmp 23)) 0 (some (2,true)),⟨true,false,true,false,false,false,true,true,false,false,[]⟩),
 (mk (some 25) (.fieldAddr 40 (.tmp 24) 0) 0 (some (2,true)),⟨true,false,true,false,false,false,true,true,false,false,[]⟩),
 (mk (some 26) (.load 29 (.tmp 25)) 29 (some (2,true)),⟨true,false,true,false,false,false,true,true,false,false,[]⟩),
 (mk (some 27) (.move (.tmp 0)) 26 (some (2,true)),⟨true,false,true,false,false,false,true,true,false,false,[]⟩),
 (mk (some 28) (.move (.tmp 4)) 3 (some (2,true)),⟨true,false,true,false,false,false,true,true,false,false,[]⟩),
 (mk (some 29) (.indexAddr 26 (.tmp 27) (.tmp 28)) 0 (some (2,true)),⟨true,false,true,false,true,false,true,true,false,false,[]⟩),
 (mk (some 30) (.fieldAddr 31 (.tmp 29) 3) 0 (some (2,true)),⟨true,false,true,false,true,false,true,true,false,false,[]⟩),
 (mk (some 31) (.load 29 (.tmp 30)) 29 (some (2,true)),⟨true,false,true,false,true,false,true,true,false,false,[]⟩),
 (mk (some 32) (.call { callee := (.value (.func 15)),args := #[(.tmp 26),(.tmp 31)],argTypes := #[29,29] }) 4 (some (2,true)),⟨true,true,true,false,true,true,true,true,false,false,[]⟩),
 (op1 33 (.pick (.tmp 21) (.tmp 32) (.const (.bool false))) 4,⟨true,false,true,false,true,false,true,true,false,false,[]⟩)]
def c13_35 : Code := codeN b13 674379
def c13_34 : Code := .cond (.tmp 33) c13_35 .skip
def c13_32 : Code := .seq c13_33 c13_34
def c13_37 : Code := codeN b13 117323
def c13_30 : Code := .seq (.block 3 c13_32) c13_37
def c13_24 : Code := .seq c13_25 c13_30
def c13_23 : Code := .loop c13_24
def c13_22 : Code := .block 2 c13_23
def c13_20 : Code := .seq (codeN b13 4683) c13_22
def c13_44 : Code := codeN b13 54859
def c13_42 : Code := .seq (codeN b13 38475) c13_44
def c13_41 : Code := .cond (.tmp 36) c13_42 .skip
def c13_39 : Code := .seq (codeN b13 9803) c13_41
def r13_46 : Array Oper := regOps (codeN (codeOf Try.f13) 7755)
def c13_46 : Code := .region 14 r13_46 true
def q13_46 : List (Oper × Fl) := [(mv 48 3 34,⟨true,false,true,false,false,false,true,true,false,false,[]⟩),
 (mv 49 5 3,⟨true,false,true,false,false,false,true,true,false,false,[]⟩),
 (mv 50 3 34,⟨true,false,true,false,false,false,true,true,false,false,[]⟩),
 (mv 51 5 3,⟨true,false,true,false,false,false,true,true,false,false,[]⟩),
 (ixa 52 34 50 51 0,⟨true,false,true,false,false,false,true,true,false,false,[]⟩),
 (op1 53 (.fieldAddr 40 (.tmp 52) 1) 0,⟨true,false,true,false,false,false,true,true,false,false,[]⟩),
 (ld 54 22 53 22,⟨true,false,true,false,false,false,true,true,false,false,[]⟩),
 (mv 55 0 26,⟨true,false,true,false,false,false,true,true,false,false,[]⟩),
 (mv 56 4 3,⟨true,false,true,false,true,false,true,true,false,false,[]⟩),
 (ixa 57 26 55 56 0,⟨true,false,true,false,true,false,true,true,false,false,[]⟩),
 (op1 58 (.fieldAddr 31 (.tmp 57) 0) 0,⟨true,false,true,false,true,false,true,true,false,false,[]⟩),
 (ld 59 3 58 3,⟨true,false,true,false,true,false,true,true,false,false,[]⟩),
 (cal 60 52 [(.tmp 54),(.tmp 59)] [22,3] 22,⟨true,true,true,false,true,true,true,true,false,false,[]⟩),
 (ixa 61 34 48 49 0,⟨true,true,true,false,true,false,true,true,false,false,[]⟩),
 (op1 62 (.fieldAddr 40 (.tmp 61) 1) 0,⟨true,true,true,false,true,false,true,true,false,false,[]⟩),
 (sto 22 62 60,⟨false,true,true,false,true,true,true,true,false,false,[]⟩)]
theorem e13_46 : evK gS fi13 c13_46 fr st k = drwR gS fi13 r13_46 q13_46 fr st k := evK_dr 14 rfl (by kernel_rfl) (by kernel_rfl)
def c13_38 : Code := .seq c13_39 c13_46
theorem e13_38 : evK gS fi13 c13_38 fr st k = evK gS fi13 c13_39 fr st (.seq c13_46 k) := rfl
def c13_19 : Code := .seq c13_20 c13_38
def c13_17 : Code := .seq (codeN b13 1099) c13_19
def c13_47 : Code := codeN b13 459
def c13_15 : Code := .seq (.block 1 c13_17) c13_47
def c13_9 : Code := .seq c13_10 c13_15
def c13_8 : Code := .loop c13_9
def c13_7 : Code := .block 0 c13_8
def c13_5 : Code := .seq (codeN b13 19) c13_7
def c13_48 : Code := .seq (codeN b13 23) .ret
def c13_4 : Code := .seq c13_5 c13_48
def c13_2 : Code := .seq (codeN b13 5) c13_4
def c13_0 : Code := .seq (codeN b13 2) c13_2
theorem E13 : evK gS fi13 c13_12 fr st k = condK gS fi13 (fr.op (.tmp 10)).bool? .skip (.exit 0) fr st k ∧
 (evK gS fi13 c13_10 fr st k = opsR gS fi13 [mv 7 4 3,
 mv 8 0 26,
 len1 9 8 26 3,
 bop 10 .lss 3 7 9 3 4] fr st (.seq c13_12 k)) ∧
 evK gS fi13 c13_27 fr st k = condK gS fi13 (fr.op (.tmp 16)).bool? .skip (.exit 2) fr st k ∧
 (evK gS fi13 c13_25 fr st k = opsR gS fi13 [mv 13 6 3,
 mv 14 3 34,
 len1 15 14 34 3,
 bop 16 .lss 3 13 15 3 4] fr st (.seq c13_27 k)) ∧
 evK gS fi13 c13_33 fr st k = drwR gS fi13 r13_33 q13_33 fr st k ∧
 (evK gS fi13 c13_35 fr st k = opsR gS fi13 [mv 34 6 3,
 asn 5 34 3] fr st k) ∧
 evK gS fi13 c13_34 fr st k = condK gS fi13 (fr.op (.tmp 33)).bool? c13_35 .skip fr st k ∧
 evK gS fi13 c13_32 fr st k = evK gS fi13 c13_33 fr st (.seq c13_34 k) ∧
 (evK gS fi13 c13_37 fr st k = opsR gS fi13 [mv 17 6 3,
 op1 18 (.binOp .add 3 (.tmp 17) (.const (.int .i64 1)) 3) 3,
 asn 6 18 3] fr st k) ∧
 evK gS fi13 c13_30 fr st k = evK gS fi13 c13_32 fr st (.blk 3 (.seq c13_37 k)) ∧
 evK gS fi13 c13_24 fr st k = evK gS fi13 c13_25 fr st (.seq c13_30 k) ∧
 evK gS fi13 c13_22 fr st k = evK gS fi13 c13_23 fr st (.blk 2 k) ∧
 evK gS fi13 c13_20 fr st k = opsR gS fi13 [op1 6 (.assign (.const (.int .i64 0))) 3] fr st (.seq c13_22 k) ∧
 (evK gS fi13 c13_44 fr st k = opsR gS fi13 [mv 39 3 34,
 mv 40 0 26,
 mv 41 4 3,
 ixa 42 26 40 41 0,
 op1 43 (.fieldAddr 31 (.tmp 42) 3) 0,
 ld 44 29 43 29,
 op1 45 (.build 40 #[(0,(.tmp 44))]) 40,
 op1 46 (.buildSlice 34 1 #[(0,(.tmp 45))]) 34,
 op1 47 (.call { callee := (.builtin .append),args := #[(.tmp 39),(.tmp 46)],argTypes := #[34,34] }) 34,
 asn 3 47 34] fr st k) ∧
 (evK gS fi13 c13_42 fr st k = opsR gS fi13 [mv 37 3 34,
 len1 38 37 34 3,
 asn 5 38 3] fr st (.seq c13_44 k)) ∧
 evK gS fi13 c13_41 fr st k = condK gS fi13 (fr.op (.tmp 36)).bool? c13_42 .skip fr st k ∧
 (evK gS fi13 c13_39 fr st k = opsR gS fi13 [mv 35 5 3,
 op1 36 (.binOp .lss 3 (.tmp 35) (.const (.int .i64 0)) 3) 4] fr st (.seq c13_41 k)) ∧
 evK gS fi13 c13_19 fr st k = evK gS fi13 c13_20 fr st (.seq c13_38 k) ∧
 evK gS fi13 c13_17 fr st k = opsR gS fi13 [op1 5 (.assign (.const (.int .i64 (-1)))) 3] fr st (.seq c13_19 k) ∧
 (evK gS fi13 c13_47 fr st k = opsR gS fi13 [mv 11 4 3,
 op1 12 (.binOp .add 3 (.tmp 11) (.const (.int .i64 1)) 3) 3,
 asn 4 12 3] fr st k) ∧
 evK gS fi13 c13_15 fr st k = evK gS fi13 c13_17 fr st (.blk 1 (.seq c13_47 k)) ∧
 evK gS fi13 c13_9 fr st k = evK gS fi13 c13_10 fr st (.seq c13_15 k) ∧
 evK gS fi13 c13_7 fr st k = evK gS fi13 c13_8 fr st (.blk 0 k) ∧
 evK gS fi13 c13_5 fr st k = opsR gS fi13 [op1 4 (.assign (.const (.int .i64 0))) 3] fr st (.seq c13_7 k) ∧
 (evK gS fi13 c13_48 fr st k = opsR gS fi13 [mv 63 3 34,
 asn 2 63 34] fr st (.seq .ret k)) ∧
 evK gS fi13 c13_4 fr st k = evK gS fi13 c13_5 fr st (.seq c13_48 k) ∧
 evK gS fi13 c13_2 fr st k = opsR gS fi13 [op1 3 (.assign (.const (.slice none 0 0))) 34] fr st (.seq c13_4 k) ∧
 evK gS fi13 c13_0 fr st k = opsR gS fi13 [op1 2 (.assign (.const (.slice none 0 0))) 34] fr st (.seq c13_2 k) := ⟨rfl,evK_rs 3 rfl (by kernel_rfl),rfl,evK_rs 7 rfl (by kernel_rfl),evK_dr 9 rfl (by kernel_rfl) (by kernel_rfl),evK_r 10 (by kernel_rfl),rfl,rfl,evK_r 8 (by kernel_rfl),rfl,rfl,rfl,evK_rs 6 rfl (by kernel_rfl),evK_r 13 (by kernel_rfl),evK_rs 12 rfl (by kernel_rfl),rfl,evK_rs 11 rfl (by kernel_rfl),rfl,evK_rs 5 rfl (by kernel_rfl),evK_r 4 (by kernel_rfl),rfl,rfl,rfl,evK_rs 2 rfl (by kernel_rfl),evK_rs 15 rfl (by kernel_rfl),rfl,evK_rs 1 rfl (by kernel_rfl),evK_rs 0 rfl (by kernel_rfl)⟩
theorem m13 : mini fi13.body = c13_0 := by kernel_rfl
theorem n13_23 (fr : Fr) (st : St) (k : Kt) : nextK gS fi13 (.loop c13_24 k) .normal fr st = evK gS fi13 c13_23 fr st k := rfl
theorem n13_8 (fr : Fr) (st : St) (k : Kt) : nextK gS fi13 (.loop c13_9 k) .normal fr st = evK gS fi13 c13_8 fr st k := rfl
theorem rowGE_nil (st : St) : rowGE st [] = .own 0 [] := rfl
theorem rowGS_nil (st : St) : rowGS st [] = st := rfl
set_option maxHeartbeats 8000000 in
theorem LG55 (l : List Sub) (hl1 : ∀ x ∈ l,POk x.filter) (hl2 : l.length ≤ 1000) (i : Nat) (s : Sub) (hs : l[i]? = some s) (out : List Grp) (ho : ∀ x ∈ out,POk x.filter) (hol : out.length ≤ 1000) (id : Nat) (S : St) (hob : St.obj S id = some (out.flatMap Grp.cells)) (R : Out × St)  (fin : Int)
    (H : ∀  (T : List (Nat × E)) (X : List (Nat × List V)),evK gS fi13 c13_38 { ps := [(0,.val (.slice (encSubs l))),(2,.own 0 []),(3,.val (.sref false 2 id 0 out.length)),(4,.val (.int .i64 (i : Nat))),(5,.val (.int .i64 fin)),(6,.val (.int .i64 out.length))],ts := T,lc := X } S (.blk 1 (.seq c13_47 (.loop c13_9 (.blk 0 (.seq c13_48 .nil))))) = some R) :
    ∀ (m q : Nat) (a : Int)  (T : List (Nat × E)) (X : List (Nat × List V)) ,q ≤ out.length → out.length - q = m → fin = atR s.filter q (out.drop q) a → 
    evK gS fi13 c13_23 { ps := [(0,.val (.slice (encSubs l))),(2,.own 0 []),(3,.val (.sref false 2 id 0 out.length)),(4,.val (.int .i64 (i : Nat))),(5,.val (.int .i64 a)),(6,.val (.int .i64 (q : Nat)))],ts := T,lc := X } S (.blk 2 (.seq c13_38 (.blk 1 (.seq c13_47 (.loop c13_9 (.blk 0 (.seq c13_48 .nil))))))) = some R := by
  intro m
  have hm : fi13.marks = [47,1000000] := rfl
  have hl : fi13.locals = [] := rfl
  have hr : fi13.results = [.tmp 2] := rfl
  induction m with
  | zero =>
    intro q a  T X  hq hm2 hf
    obtain rfl : q = out.length := by omega
    rw [List.drop_length] at hf
    have hf2 : fin = a := hf
    subst hf2
    refine evK_loop c13_24 _ _ _ _ rfl ?_
    simp (config := { implicitDefEqProofs := false }) [-Int.natCast_add,-St.obj,-St.set,-Int.not_le,-Int.not_lt,-Nat.not_le,-Nat.not_lt,ty3,ty4,ty22,ty26,ty29,ty31,ty34,ty40,hm,hl,hr,x15,fi42_eq,p15,x52,fi96_eq,p52,E13,q13_33,e13_46,q13_46,n13_23,n13_8]
    exact H  _ _ 
  | succ m ih =>
    intro q a  T X  hq hm2 hf
    obtain ⟨x,hx⟩ : ∃ x,out[q]? = some x := ⟨out[q]'(by omega),List.getElem?_eq_getElem (by omega)⟩
    have hlt : (q : Int) < (out.length : Int) := by omega
    obtain ⟨hlt2,hxe⟩ := List.getElem?_eq_some_iff.1 hx
    have hw : IntKind.wrap .i64 ((q : Int) + 1) = ((q + 1 : Nat) : Int) := by rw [wrap64 (by omega) (by omega)]; omega
    rw [drop_get hx,show atR s.filter q (x :: out.drop (q + 1)) a = atR s.filter (q + 1) (out.drop (q + 1)) (if a < 0 ∧ fsame x.filter s.filter = true then (q : Int) else a) from rfl] at hf
    have hc0 := grow_get0 hx
    have hil : (i : Int) < (l.length : Int) := by have := (List.getElem?_eq_some_iff.1 hs).1; omega
    obtain ⟨hil2,hse⟩ := List.getElem?_eq_some_iff.1 hs
    have kk : ∀ (fr : Fr) (st : St),callStep gS (EvF gS) 15 [.slice (encPreds x.filter),.slice (encPreds s.filter)] fr st = some (.ok (.val (.bool (fsame x.filter s.filter))) fr st) := fun fr st => k15 _ _ (ho x (List.mem_of_getElem? hx)) (hl1 s (List.mem_of_getElem? hs)) fr st
    have IH := fun T X => ih (q + 1) _ T X (by omega) (by omega) hf
    refine evK_loop c13_24 _ _ _ _ rfl ?_
    by_cases ha : a < 0
    · cases hq : fsame x.filter s.filter with
      | true =>
        rw [hq] at kk IH
        rw [if_pos ⟨ha,rfl⟩] at IH
        simp (config := { implicitDefEqProofs := false }) [-Int.natCast_add,-St.obj,-St.set,hx,hxe,hlt,hlt2,hw,hob,hc0,hs,hil,hil2,hse,ha,kk,IH,-Int.not_le,-Int.not_lt,-Nat.not_le,-Nat.not_lt,ty3,ty4,ty22,ty26,ty29,ty31,ty34,ty40,hm,hl,hr,x15,fi42_eq,p15,x52,fi96_eq,p52,E13,q13_33,e13_46,q13_46,e13_38,n13_23,n13_8]
      | false =>
        rw [hq] at kk IH
        rw [if_neg (by simp)] at IH
        simp (config := { implicitDefEqProofs := false }) [-Int.natCast_add,-St.obj,-St.set,hx,hxe,hlt,hlt2,hw,hob,hc0,hs,hil,hil2,hse,ha,kk,IH,-Int.not_le,-Int.not_lt,-Nat.not_le,-Nat.not_lt,ty3,ty4,ty22,ty26,ty29,ty31,ty34,ty40,hm,hl,hr,x15,fi42_eq,p15,x52,fi96_eq,p52,E13,q13_33,e13_46,q13_46,e13_38,n13_23,n13_8]
    · rw [if_neg (fun h => ha h.1)] at IH
      simp (config := { implicitDefEqProofs := false }) [-Int.natCast_add,-St.obj,-St.set,hx,hxe,hlt,hlt2,hw,ha,IH,-Int.not_le,-Int.not_lt,-Nat.not_le,-Nat.not_lt,ty3,ty4,ty22,ty26,ty29,ty31,ty34,ty40,hm,hl,hr,x15,fi42_eq,p15,x52,fi96_eq,p52,E13,q13_33,e13_46,q13_46,e13_38,n13_23,n13_8]
set_option maxHeartbeats 8000000 in
theorem L13_46 (l : List Sub) (hl1 : ∀ x ∈ l,POk x.filter) (hl2 : l.length ≤ 1000) (i : Nat) (s : Sub) (hs : l[i]? = some s) (out : List Grp) (q : Nat) (x : Grp) (hx : out[q]? = some x) (hxr : rising x.clients) (hxl : x.clients.length < 100000) (m : Nat) (st : St) (hst : st.wp ≤ st.objs.length) (R : Out × St)
    (H : ∀ (e5 e6 : E) (T : List (Nat × E)) (X : List (Nat × List V)),e5.Tame → e6.Tame → evK gS fi13 c13_8 { ps := [(0,.val (.slice (encSubs l))),(2,.own 0 []),(3,.val (.sref false 2 (st.objs.length + m) 0 out.length)),(4,.val (.int .i64 (i + 1 : Nat))),(5,e5),(6,e6)],ts := T,lc := X } (nw st m ((out.set q ⟨x.filter,layI x.clients s.client⟩).flatMap Grp.cells)) (.blk 0 (.seq c13_48 .nil)) = some R) :
    ∀ (e6 : E) (T : List (Nat × E)) (X : List (Nat × List V)) (h6 : e6.Tame),evK gS fi13 c13_46 { ps := [(0,.val (.slice (encSubs l))),(2,.own 0 []),(3,.val (.sref false 2 (st.objs.length + m) 0 out.length)),(4,.val (.int .i64 (i : Nat))),(5,.val (.int .i64 (q : Nat))),(6,e6)],ts := T,lc := X } (nw st m (out.flatMap Grp.cells)) (.blk 1 (.seq c13_47 (.loop c13_9 (.blk 0 (.seq c13_48 .nil))))) = some R := by
  intro e6 T X h6
  have hm : fi13.marks = [47,1000000] := rfl
  have hl : fi13.locals = [] := rfl
  have hr : fi13.results = [.tmp 2] := rfl
  have hlt : (q : Int) < (out.length : Int) := by have := (List.getElem?_eq_some_iff.1 hx).1; omega
  obtain ⟨hlt2,hxe⟩ := List.getElem?_eq_some_iff.1 hx
  have hil : (i : Int) < (l.length : Int) := by have := (List.getElem?_eq_some_iff.1 hs).1; omega
  obtain ⟨hil2,hse⟩ := List.getElem?_eq_some_iff.1 hs
  have hw : IntKind.wrap .i64 ((i : Int) + 1) = ((i + 1 : Nat) : Int) := by rw [wrap64 (by omega) (by omega)]; omega
  have hc1 := grow_get1 hx
  have hsp := grow_splice hx (layI x.clients s.client)
  have hl3 : q * 2 + 1 + 1 ≤ (out.flatMap Grp.cells).length := by rw [grow_len]; omega
  simp [splice,hl3] at hsp
  have ho := nw_obj st m (out.flatMap Grp.cells)
  have hn := fun cs => nw_set hst m (out.flatMap Grp.cells) cs
  have kk := fun fr st => k52 x.clients hxl hxr s.client fr st
  have HH := fun e5 T X h5 => H e5 e6 T X h5 h6
  generalize (out.set q ⟨x.filter,layI x.clients s.client⟩).flatMap Grp.cells = C2 at *
  generalize out.flatMap Grp.cells = C1 at *
  simp (config := { implicitDefEqProofs := false }) [-Int.natCast_add,-St.obj,-St.set,h6,hx,hxe,hlt,hlt2,hs,hil,hil2,hse,hw,hc1,hl3,hsp,ho,hn,kk,-Int.not_le,-Int.not_lt,-Nat.not_le,-Nat.not_lt,ty3,ty4,ty22,ty26,ty29,ty31,ty34,ty40,hm,hl,hr,x15,fi42_eq,p15,x52,fi96_eq,p52,E13,q13_33,e13_46,q13_46,e13_38,n13_23,n13_8]
  exact HH _ _ _ (tame_val _)
set_option maxHeartbeats 8000000 in
theorem L13_9 (l : List Sub) (hl1 : ∀ x ∈ l,POk x.filter) (hl2 : l.length ≤ 1000) (i : Nat) (s : Sub) (hs : l[i]? = some s) (out : List Grp) (ho : ∀ x ∈ out,POk x.filter ∧ rising x.clients ∧ x.clients.length < 100000) (hol : out.length ≤ 1000) (st : St) (hst : st.wp ≤ st.objs.length) (R : Out × St)
    (H : ∀ (e5 e6 : E) (T : List (Nat × E)) (X : List (Nat × List V)),e5.Tame → e6.Tame → evK gS fi13 c13_8 { ps := [(0,.val (.slice (encSubs l))),(2,.own 0 []),(3,rowGE st (grpStep out s)),(4,.val (.int .i64 (i + 1 : Nat))),(5,e5),(6,e6)],ts := T,lc := X } (rowGS st (grpStep out s)) (.blk 0 (.seq c13_48 .nil)) = some R) :
    ∀ (e5 e6 : E) (T : List (Nat × E)) (X : List (Nat × List V)) (h5 : e5.Tame) (h6 : e6.Tame),evK gS fi13 c13_9 { ps := [(0,.val (.slice (encSubs l))),(2,.own 0 []),(3,rowGE st out),(4,.val (.int .i64 (i : Nat))),(5,e5),(6,e6)],ts := T,lc := X } (rowGS st out) (.loop c13_9 (.blk 0 (.seq c13_48 .nil))) = some R := by
  intro e5 e6 T X h5 h6
  have hm : fi13.marks = [47,1000000] := rfl
  have hl : fi13.locals = [] := rfl
  have hr : fi13.results = [.tmp 2] := rfl
  have hil : (i : Int) < (l.length : Int) := by have := (List.getElem?_eq_some_iff.1 hs).1; omega
  obtain ⟨hil2,hse⟩ := List.getElem?_eq_some_iff.1 hs
  have hrN : rising ([] : List Int) := List.Pairwise.nil
  by_cases hn : out = []
  · subst hn
    rw [show grpStep [] s = [⟨s.filter,layI [] s.client⟩] from rfl,rowGS_ne (by simp),rowGE_ne (by simp)] at H
    have TL := L13_46 l hl1 hl2 i s hs [⟨s.filter,[]⟩] 0 ⟨s.filter,[]⟩ rfl hrN (by simp) 0 st hst R (fun e5 e6 T X h5 h6 => H e5 e6 T X h5 h6)
    rw [rowGE_nil,rowGS_nil]
    have hnr := fun fr k len cs => newRef_0 st fr k len cs
    simp only [List.flatMap_cons,List.flatMap_nil,List.append_nil,Grp.cells,show intVs [] = [] from rfl,List.length_singleton,Nat.add_zero,show ((0 : Nat) : Int) = 0 from rfl] at TL
    clear H
    simp (config := { implicitDefEqProofs := false }) [-Int.natCast_add,-St.obj,-St.set,h5,h6,hs,hil,hil2,hse,-Int.not_le,-Int.not_lt,-Nat.not_le,-Nat.not_lt,ty3,ty4,ty22,ty26,ty29,ty31,ty34,ty40,hm,hl,hr,x15,fi42_eq,p15,x52,fi96_eq,p52,E13,q13_33,e13_46,q13_46,e13_38,n13_23,n13_8]
    refine evK_loop c13_24 _ _ _ _ rfl ?_
    simp (config := { implicitDefEqProofs := false }) [-Int.natCast_add,-St.obj,-St.set,h5,h6,hs,hil,hil2,hse,hnr,markStep,markAppend,elemsAt,-Int.not_le,-Int.not_lt,-Nat.not_le,-Nat.not_lt,ty3,ty4,ty22,ty26,ty29,ty31,ty34,ty40,hm,hl,hr,x15,fi42_eq,p15,x52,fi96_eq,p52,E13,q13_33,e13_38,n13_23,n13_8]
    exact TL _ _ _ (tame_val _)
  · rw [rowGS_ne hn,rowGE_ne hn]
    have hob := nw_obj st (out.length - 1) (out.flatMap Grp.cells)
    have q0 : 0 < out.length := List.length_pos_iff.2 hn
    have hat := atR_eq s.filter out 0
    have hale := atG_le s.filter out
    have H38 : ∀ (T : List (Nat × E)) (X : List (Nat × List V)),evK gS fi13 c13_38 { ps := [(0,.val (.slice (encSubs l))),(2,.own 0 []),(3,.val (.sref false 2 (st.objs.length + (out.length - 1)) 0 out.length)),(4,.val (.int .i64 (i : Nat))),(5,.val (.int .i64 (atR s.filter 0 out (-1)))),(6,.val (.int .i64 out.length))],ts := T,lc := X } (nw st (out.length - 1) (out.flatMap Grp.cells)) (.blk 1 (.seq c13_47 (.loop c13_9 (.blk 0 (.seq c13_48 .nil))))) = some R := by
      intro T X
      by_cases hal : atG s.filter out < out.length
      · rw [if_pos hal,Nat.zero_add] at hat
        rw [hat]
        obtain ⟨x,hx⟩ : ∃ x,out[atG s.filter out]? = some x := ⟨_,List.getElem?_eq_getElem hal⟩
        have hg : grpStep out s = out.set (atG s.filter out) ⟨x.filter,layI x.clients s.client⟩ := by unfold grpStep; rw [hx]
        have hne : out.set (atG s.filter out) ⟨x.filter,layI x.clients s.client⟩ ≠ [] := by simp [hn]
        rw [hg,rowGS_ne hne,rowGE_ne hne] at H
        simp only [List.length_set] at H
        have hxo := ho x (List.mem_of_getElem? hx)
        have TL := L13_46 l hl1 hl2 i s hs out (atG s.filter out) x hx hxo.2.1 hxo.2.2 (out.length - 1) st hst R (fun e5 e6 T X h5 h6 => H e5 e6 T X h5 h6)
        clear H
        generalize out.flatMap Grp.cells = CC at *
        have hng : ¬ ((atG s.filter out : Int) < 0) := by omega
        simp (config := { implicitDefEqProofs := false }) [-Int.natCast_add,-St.obj,-St.set,hng,-Int.not_le,-Int.not_lt,-Nat.not_le,-Nat.not_lt,ty3,ty4,ty22,ty26,ty29,ty31,ty34,ty40,hm,hl,hr,x15,fi42_eq,p15,x52,fi96_eq,p52,E13,q13_33,e13_38,n13_23,n13_8]
        exact TL _ _ _ (tame_val _)
      · rw [if_neg hal] at hat
        rw [hat]
        have hnx : out[atG s.filter out]? = none := List.getElem?_eq_none (by omega)
        have hg : grpStep out s = out ++ [⟨s.filter,layI [] s.client⟩] := by unfold grpStep; rw [hnx]
        rw [hg,rowGS_ne (by simp),rowGE_ne (by simp)] at H
        simp only [List.length_append,List.length_singleton,Nat.add_sub_cancel] at H
        have hset : (out ++ [(⟨s.filter,[]⟩ : Grp)]).set out.length ⟨s.filter,layI [] s.client⟩ = out ++ [⟨s.filter,layI [] s.client⟩] := by simp
        have TL := L13_46 l hl1 hl2 i s hs (out ++ [⟨s.filter,[]⟩]) out.length ⟨s.filter,[]⟩ (by simp) hrN (by simp) out.length st hst R (by
          intro e5 e6 T X h5 h6
          simp only [hset,List.length_append,List.length_singleton]
          exact H e5 e6 T X h5 h6)
        rw [← grow_snoc] at TL
        simp only [List.length_append,List.length_singleton] at TL
        clear H
        have hk := nw_kill hst (out.length - 1) (out.flatMap Grp.cells)
        rw [show out.length - 1 + 1 = out.length from by omega] at hk
        have hnr := fun fr k len cs => newRef_dd' st fr out.length k len cs
        have q1 := grow_len out
        have q2 := grow_one out
        have q3 := grow_strip out
        have q5 : ¬ out.length = 0 := by omega
        have b1 : (out.length + 1) * 48 ≤ 140737488355328 := by omega
        have b2 : out.length + 1 ≤ 140737488355328 := by omega
        generalize out.flatMap Grp.cells = CC at *
        simp (config := { implicitDefEqProofs := false }) [-Int.natCast_add,-St.obj,-St.set,hs,hil,hil2,hse,hob,hk,hnr,q0,q1,q2,q3,q5,b1,b2,markStep,markAppend,elemsAt,-Int.not_le,-Int.not_lt,-Nat.not_le,-Nat.not_lt,ty3,ty4,ty22,ty26,ty29,ty31,ty34,ty40,hm,hl,hr,x15,fi42_eq,p15,x52,fi96_eq,p52,E13,q13_33,e13_38,n13_23,n13_8]
        exact TL _ _ _ (tame_val _)
    have LL := fun T X => LG55 l hl1 hl2 i s hs out (fun x h => (ho x h).1) hol _ _ hob R _ H38 out.length 0 (-1) T X (Nat.zero_le _) rfl (by rw [List.drop_zero])
    rw [show ((0 : Nat) : Int) = 0 from rfl] at LL
    clear H H38
    generalize out.flatMap Grp.cells = CC at *
    simp (config := { implicitDefEqProofs := false }) [-Int.natCast_add,-St.obj,-St.set,h5,h6,hil,hil2,-Int.not_le,-Int.not_lt,-Nat.not_le,-Nat.not_lt,ty3,ty4,ty22,ty26,ty29,ty31,ty34,ty40,hm,hl,hr,x15,fi42_eq,p15,x52,fi96_eq,p52,E13,q13_33,e13_46,q13_46,e13_38,n13_23,n13_8]
    exact LL _ _
theorem gof_ok {l : List Sub} (hl1 : ∀ x ∈ l,POk x.filter) {x : Grp} (hx : x ∈ gof l) : POk x.filter ∧ rising x.clients ∧ x.clients.length ≤ l.length := by
  obtain ⟨k,s,h1,h2,rfl⟩ := gof_mem.1 hx
  exact ⟨hl1 s (List.mem_of_getElem? h1),cli_rising s l [] List.Pairwise.nil,cliOf_len l s⟩
set_option maxHeartbeats 8000000 in
theorem L13_8 (l : List Sub) (hl1 : ∀ x ∈ l,POk x.filter) (hl2 : l.length ≤ 1000) (st : St) (hst : st.wp ≤ st.objs.length) :
    ∀ (m i : Nat) (e5 e6 : E) (T : List (Nat × E)) (X : List (Nat × List V)) (h5 : e5.Tame) (h6 : e6.Tame),i ≤ l.length → l.length - i = m →
    evK gS fi13 c13_8 { ps := [(0,.val (.slice (encSubs l))),(2,.own 0 []),(3,rowGE st (gof (l.take i))),(4,.val (.int .i64 (i : Nat))),(5,e5),(6,e6)],ts := T,lc := X } (rowGS st (gof (l.take i))) (.blk 0 (.seq c13_48 .nil)) = some (.ret (.slice (encGrps (gof l))) none,dd st (gof l).length) := by
  intro m
  have hm : fi13.marks = [47,1000000] := rfl
  have hl : fi13.locals = [] := rfl
  have hr : fi13.results = [.tmp 2] := rfl
  induction m with
  | zero =>
    intro i e5 e6 T X h5 h6 hi hm2
    obtain rfl : i = l.length := by omega
    rw [List.take_length]
    refine evK_loop c13_9 _ _ _ _ rfl ?_
    by_cases hn : gof l = []
    · rw [hn,rowGE_nil,rowGS_nil]
      have hz0 := frz_slice (xs := intVs []) (flats_ints []) st
      rw [show intVs [] = [] from rfl] at hz0
      rw [show encGrps [] = [] from rfl,show dd st ([] : List Grp).length = st from by simp [dd]]
      simp (config := { implicitDefEqProofs := false }) [-St.obj,-St.set,h5,h6,hz0,-Int.not_le,-Int.not_lt,-Nat.not_le,-Nat.not_lt,ty3,ty4,ty22,ty26,ty29,ty31,ty34,ty40,hm,hl,hr,x15,fi42_eq,p15,x52,fi96_eq,p52,E13,q13_33,e13_46,q13_46,e13_38,n13_23,n13_8]
    · rw [rowGS_ne hn,rowGE_ne hn]
      have hz := grow_frz hst hn ((gof l).length - 1)
      have q0 : 0 < (gof l).length := List.length_pos_iff.2 hn
      rw [show (gof l).length - 1 + 1 = (gof l).length from by omega] at hz
      generalize (gof l).flatMap Grp.cells = CC at *
      simp (config := { implicitDefEqProofs := false }) [-St.obj,-St.set,h5,h6,hz,-Int.not_le,-Int.not_lt,-Nat.not_le,-Nat.not_lt,ty3,ty4,ty22,ty26,ty29,ty31,ty34,ty40,hm,hl,hr,x15,fi42_eq,p15,x52,fi96_eq,p52,E13,q13_33,e13_46,q13_46,e13_38,n13_23,n13_8]
  | succ m ih =>
    intro i e5 e6 T X h5 h6 hi hm2
    obtain ⟨s,hs⟩ : ∃ s,l[i]? = some s := ⟨l[i]'(by omega),List.getElem?_eq_getElem (by omega)⟩
    have hg : grpStep (gof (l.take i)) s = gof (l.take (i + 1)) := by
      rw [grp_snoc,List.take_add_one,hs]; rfl
    have hlt : ∀ x ∈ l.take i,POk x.filter := fun x hx => hl1 x (List.mem_of_mem_take hx)
    have htl : (l.take i).length ≤ 1000 := by simp; omega
    have hgl := gof_len (l.take i)
    refine evK_loop c13_9 _ _ _ _ rfl ?_
    refine L13_9 l hl1 hl2 i s hs _ (fun x hx => ?_) (by omega) st hst _ ?_ e5 e6 T X h5 h6
    · have := gof_ok hlt hx
      exact ⟨this.1,this.2.1,by omega⟩
    · rw [hg]
      exact fun e5 e6 T X h5 h6 => ih (i + 1) e5 e6 T X h5 h6 (by omega) (by omega)
set_option maxHeartbeats 8000000 in
theorem c13 (l : List Sub) (hl1 : ∀ x ∈ l,POk x.filter) (hl2 : l.length ≤ 1000) (st : St) (hst : st.wp ≤ st.objs.length) : EvF gS 13 [.slice (encSubs l)] st = some (.ret (.slice (encGrps (gof l))) none,dd st (gof l).length) := by
  refine EvF_start fi55_eq (fun x h => by cases h) m13 ?_
  rw [st13]
  have hm : fi13.marks = [47,1000000] := rfl
  have hl : fi13.locals = [] := rfl
  have hr : fi13.results = [.tmp 2] := rfl
  have LL := fun e5 e6 T X h5 h6 => L13_8 l hl1 hl2 st hst l.length 0 e5 e6 T X h5 h6 (Nat.zero_le _) rfl
  rw [List.take_zero,show gof [] = [] from rfl,rowGE_nil,rowGS_nil,show ((0 : Nat) : Int) = 0 from rfl] at LL
  generalize hR : (Out.ret (V.slice (encGrps (gof l))) none,dd st (gof l).length) = R at LL ⊢
  simp (config := { implicitDefEqProofs := false }) [-St.obj,-St.set,-Int.not_le,-Int.not_lt,-Nat.not_le,-Nat.not_lt,ty3,ty4,ty22,ty26,ty29,ty31,ty34,ty40,hm,hl,hr,x15,fi42_eq,p15,x52,fi96_eq,p52,E13,q13_33,e13_46,q13_46,e13_38,n13_23,n13_8]
  exact LL _ _ _ _ tame_any tame_any
theorem k13 (l : List Sub) (hl1 : ∀ x ∈ l,POk x.filter) (hl2 : l.length ≤ 1000) (fr : Fr) (st : St) (hst : st.wp ≤ st.objs.length) : callStep gS (EvF gS) 13 [.slice (encSubs l)] fr st = some (.ok (.val (.slice (encGrps (gof l)))) (fr.map E.noMem) (dd st (gof l).length)) := by
  unfold callStep
  simp only [show gS.ext 13 = none from rfl,fi55_eq,show fi13.pure = false from rfl,Bool.false_eq_true,if_false,c13 l hl1 hl2 st hst]
  rfl
end
end Go.Proofs.Ytdoobejjedpcgaa
namespace Go.Ab
open Go
theorem layI_fold_len : ∀ (cs acc : List Int),(cs.foldl layI acc).length ≤ acc.length + cs.length
  | [],acc => Nat.le_refl _
  | c :: r,acc => by
    have h1 := layI_len acc c
    have h2 := layI_fold_len r (layI acc c)
    rw [List.foldl_cons,List.length_cons]
    omega
theorem rd_fold_len (g : List Grp) (hg : ∀ x ∈ g,x.clients.length < 1000) : ∀ (m acc : List Int),(m.foldl (rdStep g) acc).length ≤ acc.length + 1000 * m.length
  | [],acc => by simp
  | i :: r,acc => by
    have h2 := rd_fold_len g hg r (rdStep g acc i)
    have h1 : (rdStep g acc i).length ≤ acc.length + 1000 := by
      unfold rdStep
      split
      · omega
      · rename_i h
        have hi : i.toNat < g.length := by omega
        rw [List.getElem?_eq_getElem hi,Option.getD_some]
        have h3 := layI_fold_len g[i.toNat].clients acc
        have h4 := hg _ (List.getElem_mem hi)
        omega
    rw [List.foldl_cons,List.length_cons]
    omega
theorem greaders_len (g : List Grp) (hg : ∀ x ∈ g,x.clients.length < 1000) (m : List Int) : (greaders g m).length ≤ 1000 * m.length := by
  have := rd_fold_len g hg m []
  simpa [greaders] using this
theorem bothG_len (v : List Int) : ∀ (u out : List Int),(bothI v u out).length ≤ out.length + u.length
  | [],out => Nat.le_refl _
  | c :: r,out => by
    have h1 := layI_len out c
    have h2 := bothG_len v r (if hasI v c then layI out c else out)
    rw [show bothI v (c :: r) out = bothI v r (if hasI v c then layI out c else out) from rfl,List.length_cons]
    split at h2 <;> rename_i h <;> simp only [h] <;> simp <;> omega
def swp (xs : List Sub) : List Sub :=
  match xs[0]?,xs[xs.length - 1]? with
  | some x,some y => (xs.set 0 y).set (xs.length - 1) x
  | _,_ => xs
theorem swp_len (xs : List Sub) : (swp xs).length = xs.length := by
  unfold swp
  split <;> simp
theorem swp_mem {xs : List Sub} {s : Sub} (h : s ∈ swp xs) : s ∈ xs := by
  unfold swp at h
  split at h
  · rename_i x y hx hy
    rcases List.mem_or_eq_of_mem_set h with h | rfl
    · rcases List.mem_or_eq_of_mem_set h with h | rfl
      · exact h
      · exact List.mem_of_getElem? hy
    · exact List.mem_of_getElem? hx
  · exact h
theorem sc_len (x : Sub) : (Sub.cells x).length = 4 := rfl
theorem sc_block {xs : List Sub} {i : Nat} {x : Sub} (h : xs[i]? = some x) : ((xs.flatMap Sub.cells).drop (i * 4)).take 4 = Sub.cells x := by
  rw [row_drop Sub.cells 4 sc_len,drop_get h,List.flatMap_cons,List.take_append_of_le_length (by rw [sc_len]; omega)]
  rfl
theorem sc_splice {xs : List Sub} {i : Nat} {x : Sub} (h : xs[i]? = some x) (y : Sub) : splice (xs.flatMap Sub.cells) (i * 4) (Sub.cells y) = some ((xs.set i y).flatMap Sub.cells) := by
  have hi := (List.getElem?_eq_some_iff.1 h).1
  have := row_splices Sub.cells 4 sc_len xs [y] i (by simp; omega)
  rw [List.flatMap_cons,List.flatMap_nil,List.append_nil] at this
  rw [this,List.set_eq_take_append_cons_drop,if_pos hi]
  simp
end Go.Ab
namespace Go.Ab
open Go
theorem new_feed (st : St) (l : List Int) : ({ objs := st.objs ++ [[V.slice (intVs l),V.int .i64 0]],wp := st.wp } : St) = setF (nw st 0 []) st.objs.length l (nA l 0 0) := by
  unfold setF nw nA
  simp
theorem feedOk_new {st : St} (h : st.wp ≤ st.objs.length) : FeedOk (nw st 0 []) st.objs.length := ⟨by rw [gr_len]; omega,h⟩
def shr (g : List Grp) (a b : Nat) : Bool := !decide (bothI ((g[b]?).getD default).clients ((g[a]?).getD default).clients [] = [])
end Go.Ab
