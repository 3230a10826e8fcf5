/- Of any Subs, any attributes, any places, each answer of groups is as the document says. Part 5. -/
import Derived.Test.YtdoobejjedpcgaaK4
set_option linter.unusedVariables false
set_option linter.unusedSimpArgs false
set_option linter.unnecessarySimpa false
namespace Go.Proofs.Ytdoobejjedpcgaa
open Go Go.Ab
set_option maxRecDepth 20000
noncomputable section
variable (fr : Fr) (st : St) (k : Kt)
def fi80 : FI := { body := codeOf Try.f80,ntmps := 62,results := [.tmp 4],pers := [0,1,2,3,4,5,45,46],locals := [2,3],pure := true,marks := [] }
theorem fi25_eq : gS.fn 80 = some fi80 := by kernel_rfl
theorem st80 (a0 a1 : V) : startFr fi80 [a0,a1] = { ps := [(0,.val a0),(1,.val a1),(2,.any),(3,.any),(4,.any),(5,.any),(45,.any),(46,.any)],ts := [],lc := [] } := rfl
def b80 : Code := mini (codeOf Try.f80)
def c80_6 : Code := .seq (codeN b80 37) .ret
def c80_5 : Code := .cond (.tmp 42) c80_6 .skip
def c80_3 : Code := .seq (codeN b80 9) c80_5
def r80_26 : Array Oper := regOps (codeN (codeOf Try.f80) 5323)
def c80_26 : Code := .region 6 r80_26 true
def q80_26 : List (Oper × Fl) := [(op1 49 (.fieldAddr 91 (.tmp 2) 4) 0,⟨true,false,true,false,false,false,true,true,false,false,[]⟩),
 (ld 50 89 49 89,⟨true,false,true,false,false,false,true,true,false,false,[]⟩),
 (mv 51 5 3,⟨true,false,true,false,false,false,true,true,false,false,[]⟩),
 (ixa 52 89 50 51 0,⟨true,false,true,false,false,false,true,true,false,false,[]⟩),
 (ld 53 88 52 88,⟨true,false,true,false,false,false,true,true,false,false,[]⟩),
 (op1 54 (.fieldAddr 91 (.tmp 3) 4) 0,⟨true,false,true,false,false,false,true,true,false,false,[]⟩),
 (ld 55 89 54 89,⟨true,false,true,false,false,false,true,true,false,false,[]⟩),
 (mv 56 5 3,⟨true,false,true,false,true,false,true,true,false,false,[]⟩),
 (ixa 57 89 55 56 0,⟨true,false,true,false,true,false,true,true,false,false,[]⟩),
 (ld 58 88 57 88,⟨true,false,true,false,true,false,true,true,false,false,[]⟩),
 (cal 59 102 [(.tmp 53),(.tmp 58)] [88,88] 4,⟨true,true,true,false,true,true,true,true,false,false,[]⟩),
 (op1 60 (.unOp .not 4 (.tmp 59)) 4,⟨true,false,true,false,true,false,true,true,false,false,[]⟩)]
def c80_28 : Code := .seq (codeN b80 19659) .ret
def c80_27 : Code := .cond (.tmp 60) c80_28 .skip
def c80_25 : Code := .seq c80_26 c80_27
def c80_23 : Code := .seq (codeN b80 2251) c80_25
def c80_32 : Code := codeN b80 971
def c80_21 : Code := .seq (.block 1 c80_23) c80_32
def c80_17 : Code := .seq (.cond (.tmp 47) .skip (.exit 0)) c80_21
def c80_15 : Code := .seq (codeN b80 139) c80_17
def c80_14 : Code := .loop c80_15
def c80_13 : Code := .block 0 c80_14
def c80_11 : Code := .seq (codeN b80 19) c80_13
def c80_33 : Code := .seq (codeN b80 23) .ret
def c80_10 : Code := .seq c80_11 c80_33
def c80_2 : Code := .seq c80_3 c80_10
def c80_0 : Code := .seq (codeN b80 2) c80_2
theorem E80 : evK gS fi80 c80_6 fr st k = opsR gS fi80 [op1 4 (.assign (.const (.bool false))) 4] fr st (.seq .ret k) ∧
 evK gS fi80 c80_5 fr st k = condK gS fi80 (fr.op (.tmp 42)).bool? c80_6 .skip fr st k ∧
 (evK gS fi80 c80_3 fr st k = opsR gS fi80 [op1 6 (.fieldAddr 91 (.tmp 2) 0) 0,
 ld 7 9 6 9,
 op1 8 (.fieldAddr 91 (.tmp 3) 0) 0,
 ld 9 9 8 9,
 bop 10 .neq 9 7 9 9 4,
 mv 11 10 4,
 mk (some 12) (.fieldAddr 91 (.tmp 2) 1) 0 (some (5,false)),
 mk (some 13) (.load 3 (.tmp 12)) 3 (some (5,false)),
 mk (some 14) (.fieldAddr 91 (.tmp 3) 1) 0 (some (5,false)),
 mk (some 15) (.load 3 (.tmp 14)) 3 (some (5,false)),
 mk (some 16) (.binOp .neq 3 (.tmp 13) (.tmp 15) 3) 4 (some (5,false)),
 op1 17 (.pick (.tmp 11) (.const (.bool true)) (.tmp 16)) 4,
 mv 18 17 4,
 mk (some 19) (.fieldAddr 91 (.tmp 2) 2) 0 (some (12,false)),
 mk (some 20) (.load 88 (.tmp 19)) 88 (some (12,false)),
 mk (some 21) (.fieldAddr 91 (.tmp 3) 2) 0 (some (12,false)),
 mk (some 22) (.load 88 (.tmp 21)) 88 (some (12,false)),
 mk (some 23) (.call { callee := (.value (.func 102)),args := #[(.tmp 20),(.tmp 22)],argTypes := #[88,88] }) 4 (some (12,false)),
 mk (some 24) (.unOp .not 4 (.tmp 23)) 4 (some (12,false)),
 op1 25 (.pick (.tmp 18) (.const (.bool true)) (.tmp 24)) 4,
 mv 26 25 4,
 mk (some 27) (.fieldAddr 91 (.tmp 2) 3) 0 (some (20,false)),
 mk (some 28) (.load 88 (.tmp 27)) 88 (some (20,false)),
 mk (some 29) (.fieldAddr 91 (.tmp 3) 3) 0 (some (20,false)),
 mk (some 30) (.load 88 (.tmp 29)) 88 (some (20,false)),
 mk (some 31) (.call { callee := (.value (.func 102)),args := #[(.tmp 28),(.tmp 30)],argTypes := #[88,88] }) 4 (some (20,false)),
 mk (some 32) (.unOp .not 4 (.tmp 31)) 4 (some (20,false)),
 op1 33 (.pick (.tmp 26) (.const (.bool true)) (.tmp 32)) 4,
 mv 34 33 4,
 mk (some 35) (.fieldAddr 91 (.tmp 2) 4) 0 (some (28,false)),
 mk (some 36) (.load 89 (.tmp 35)) 89 (some (28,false)),
 mk (some 37) (.call { callee := (.builtin .len),args := #[(.tmp 36)],argTypes := #[89] }) 3 (some (28,false)),
 mk (some 38) (.fieldAddr 91 (.tmp 3) 4) 0 (some (28,false)),
 mk (some 39) (.load 89 (.tmp 38)) 89 (some (28,false)),
 mk (some 40) (.call { callee := (.builtin .len),args := #[(.tmp 39)],argTypes := #[89] }) 3 (some (28,false)),
 mk (some 41) (.binOp .neq 3 (.tmp 37) (.tmp 40) 3) 4 (some (28,false)),
 op1 42 (.pick (.tmp 34) (.const (.bool true)) (.tmp 41)) 4] fr st (.seq c80_5 k)) ∧
 evK gS fi80 c80_26 fr st k = drwR gS fi80 r80_26 q80_26 fr st k ∧
 evK gS fi80 c80_28 fr st k = opsR gS fi80 [op1 4 (.assign (.const (.bool false))) 4] fr st (.seq .ret k) ∧
 evK gS fi80 c80_27 fr st k = condK gS fi80 (fr.op (.tmp 60)).bool? c80_28 .skip fr st k ∧
 evK gS fi80 c80_25 fr st k = evK gS fi80 c80_26 fr st (.seq c80_27 k) ∧
 (evK gS fi80 c80_23 fr st k = opsR gS fi80 [mv 48 46 3,
 asn 5 48 3] fr st (.seq c80_25 k)) ∧
 (evK gS fi80 c80_32 fr st k = opsR gS fi80 [op1 61 (.binOp .add 3 (.tmp 46) (.const (.int .i64 1)) 3) 3,
 mv 46 61 3] fr st k) ∧
 evK gS fi80 c80_21 fr st k = evK gS fi80 c80_23 fr st (.blk 1 (.seq c80_32 k)) ∧
 evK gS fi80 c80_17 fr st k = condK gS fi80 (fr.op (.tmp 47)).bool? .skip (.exit 0) fr st (.seq c80_21 k) ∧
 evK gS fi80 c80_15 fr st k = opsR gS fi80 [bop 47 .lss 3 46 45 3 0] fr st (.seq c80_17 k) ∧
 evK gS fi80 c80_13 fr st k = evK gS fi80 c80_14 fr st (.blk 0 k) ∧
 (evK gS fi80 c80_11 fr st k = opsR gS fi80 [op1 43 (.fieldAddr 91 (.tmp 2) 4) 0,
 ld 44 89 43 89,
 len1 45 44 89 3,
 op1 46 (.move (.const (.int .i64 0))) 3] fr st (.seq c80_13 k)) ∧
 evK gS fi80 c80_33 fr st k = opsR gS fi80 [op1 4 (.assign (.const (.bool true))) 4] fr st (.seq .ret k) ∧
 evK gS fi80 c80_10 fr st k = evK gS fi80 c80_11 fr st (.seq c80_33 k) ∧
 evK gS fi80 c80_2 fr st k = evK gS fi80 c80_3 fr st (.seq c80_10 k) ∧
 (evK gS fi80 c80_0 fr st k = opsR gS fi80 [op1 2 (.box 91 (.tmp 0)) 0,
 op1 3 (.box 91 (.tmp 1)) 0,
 op1 4 (.assign (.const (.bool false))) 4] fr st (.seq c80_2 k)) := ⟨evK_rs 2 rfl (by kernel_rfl),rfl,evK_rs 1 rfl (by kernel_rfl),evK_dr 6 rfl (by kernel_rfl) (by kernel_rfl),evK_rs 7 rfl (by kernel_rfl),rfl,rfl,evK_rs 5 rfl (by kernel_rfl),evK_r 8 (by kernel_rfl),rfl,rfl,evK_rs 4 rfl (by kernel_rfl),rfl,evK_rs 3 rfl (by kernel_rfl),evK_rs 9 rfl (by kernel_rfl),rfl,rfl,evK_rs 0 rfl (by kernel_rfl)⟩
theorem m80 : mini fi80.body = c80_0 := by kernel_rfl
theorem n80_14 (fr : Fr) (st : St) (k : Kt) : nextK gS fi80 (.loop c80_15 k) .normal fr st = evK gS fi80 c80_14 fr st k := rfl
set_option maxHeartbeats 4000000 in
theorem L80_14 (a : Pred) (b : Pred) (h_a : a.ok) (st : St) : ∀ (n i : Nat) (j : Int) (m : Int) (e0 e1 e4 e5 : E) (T : List (Nat × E)) (X : List (Nat × List V)) (ht0 : e0.Tame) (ht1 : e1.Tame) (ht4 : e4.Tame) (ht5 : e5.Tame) (hx2 : lk X 2 = some [.str a.name,.int .i64 a.test,.int .i64 a.v.kind,.int .i64 a.v.n,.float .f64 a.v.x,.str a.v.s,.bool a.v.b,.int .i64 a.w.kind,.int .i64 a.w.n,.float .f64 a.w.x,.str a.w.s,.bool a.w.b,.slice (encVals a.set)]) (hx3 : lk X 3 = some [.str b.name,.int .i64 b.test,.int .i64 b.v.kind,.int .i64 b.v.n,.float .f64 b.v.x,.str b.v.s,.bool b.v.b,.int .i64 b.w.kind,.int .i64 b.w.n,.float .f64 b.w.x,.str b.w.s,.bool b.w.b,.slice (encVals b.set)]) (hlen : a.set.length = b.set.length) (hm45 : m = ((a.set.length : Nat) : Int)),j = (i : Int) → i ≤ (a.set).length → (a.set).length - i = n →
    evK gS fi80 c80_14 { ps := [(0,e0),(1,e1),(2,.lp 2 0),(3,.lp 3 0),(4,e4),(5,e5),(45,.val (.int .i64 m)),(46,.val (.int .i64 j))],ts := T,lc := X } st (.blk 0 (.seq c80_33 .nil)) = some ((.ret (.bool (sames (a.set.drop i) (b.set.drop i))) none),st) := by
  intro n
  have hm : fi80.marks = [] := rfl
  have hl : fi80.locals = [2,3] := rfl
  have hr : fi80.results = [.tmp 4] := rfl
  have hao := h_a.2
  induction n with
  | zero =>
    intro i j m e0 e1 e4 e5 T X ht0 ht1 ht4 ht5 hx2 hx3 hlen hm45 hj hi hn
    obtain rfl : i = (a.set).length := by omega
    subst hj
    subst hm45
    have hz : b.set.drop a.set.length = [] := List.drop_eq_nil_of_le (by omega)
    refine evK_loop c80_15 _ st _ _ rfl ?_
    simp (config := { contextual := true,maxSteps := 10000000,maxDischargeDepth := 6 }) [-Int.not_le,-Int.not_lt,-Nat.not_le,-Nat.not_lt,ty3,ty4,ty9,ty88,ty89,ty91,eq88,hm,hl,hr,k102,x102,fi81_eq,p102,E80,q80_26,n80_14,ht0,ht1,ht4,ht5,hx2,hx3,hz]
    all_goals try simp (config := { contextual := true }) [-Int.not_le,-Int.not_lt,-Nat.not_le,-Nat.not_lt,sames]
    all_goals first | done | grind | omega | (trace_state; fail)
  | succ n ih =>
    intro i j m e0 e1 e4 e5 T X ht0 ht1 ht4 ht5 hx2 hx3 hlen hm45 hj hi hn
    subst hj
    obtain ⟨x,hx⟩ : ∃ x,(a.set)[i]? = some x := ⟨(a.set)[i]'(by omega),List.getElem?_eq_getElem (by omega)⟩
    have hd := drop_get hx
    have hlt : (i : Int) < ((a.set).length : Int) := by omega
    have hlt2 : i < (a.set).length := by omega
    have hxe : (a.set)[i]'hlt2 = x := by rw [List.getElem?_eq_getElem hlt2] at hx; exact Option.some.inj hx
    have hw : IntKind.wrap .i64 ((i : Int) + 1) = (i : Int) + 1 := wrap64 (by omega) (by omega)
    subst hm45
    obtain ⟨y,hy⟩ : ∃ y,(b.set)[i]? = some y := ⟨(b.set)[i]'(by omega),List.getElem?_eq_getElem (by omega)⟩
    have hyd := drop_get hy
    have hyl : i < (b.set).length := by omega
    have hye : (b.set)[i]'hyl = y := by rw [List.getElem?_eq_getElem hyl] at hy; exact Option.some.inj hy
    have IH := fun m e0 e1 e4 e5 T X ht0 ht1 ht4 ht5 hx2 hx3 hlen hm45 => ih (i + 1) ((i : Int) + 1) m e0 e1 e4 e5 T X ht0 ht1 ht4 ht5 hx2 hx3 hlen hm45 rfl (by omega) (by omega)
    refine evK_loop c80_15 _ st _ _ rfl ?_
    simp (config := { contextual := true,maxSteps := 10000000,maxDischargeDepth := 6 }) [-Int.not_le,-Int.not_lt,-Nat.not_le,-Nat.not_lt,ty3,ty4,ty9,ty88,ty89,ty91,eq88,hm,hl,hr,k102,x102,fi81_eq,p102,E80,q80_26,n80_14,ht0,ht1,ht4,ht5,hx2,hx3,hx,hxe,hd,hlt,hlt2,hw,IH,hy,hye,hyd,hlen]
    all_goals try simp (config := { contextual := true }) [-Int.not_le,-Int.not_lt,-Nat.not_le,-Nat.not_lt,sames]
    all_goals first | done | grind | omega | (trace_state; fail)
set_option maxHeartbeats 4000000 in
theorem c80 (a : Pred) (b : Pred)  (h_a : Pred.ok a) (h_b : Pred.ok b) (st : St) : EvF gS 80 [a.enc,b.enc] st = some (.ret (.bool (psame a b)) none,st) := by
  refine EvF_start fi25_eq (fun x h => by cases h) m80 ?_
  rw [st80]
  have hm : fi80.marks = [] := rfl
  have hl : fi80.locals = [2,3] := rfl
  have hr : fi80.results = [.tmp 4] := rfl
  simp (config := { contextual := true,maxSteps := 10000000,maxDischargeDepth := 6 }) [-Int.not_le,-Int.not_lt,-Nat.not_le,-Nat.not_lt,ty3,ty4,ty9,ty88,ty89,ty91,eq88,hm,hl,hr,k102,x102,fi81_eq,p102,E80,q80_26,n80_14,(fun m e0 e1 e4 e5 T X ht0 ht1 ht4 ht5 hx2 hx3 hlen hm45 => L80_14 a b h_a st _ 0 0  m e0 e1 e4 e5 T X ht0 ht1 ht4 ht5 hx2 hx3 hlen hm45 rfl (Nat.zero_le _) rfl),h_a.1,h_a.2,h_b.1,h_b.2]
  all_goals try simp (config := { contextual := true }) [-Int.not_le,-Int.not_lt,-Nat.not_le,-Nat.not_lt,psame,sames_ne]
  all_goals first | done | grind | omega | (trace_state; fail)
theorem k80 (a_name : List UInt8) (a_test : Int) (a_vk : Int) (a_vn : Int) (a_vx : Nat) (a_vs : List UInt8) (a_vb : Bool) (a_wk : Int) (a_wn : Int) (a_wx : Nat) (a_ws : List UInt8) (a_wb : Bool) (a_set : List Val) (b_name : List UInt8) (b_test : Int) (b_vk : Int) (b_vn : Int) (b_vx : Nat) (b_vs : List UInt8) (b_vb : Bool) (b_wk : Int) (b_wn : Int) (b_wx : Nat) (b_ws : List UInt8) (b_wb : Bool) (b_set : List Val)  (h_a : Pred.ok (⟨a_name,a_test,⟨a_vk,a_vn,a_vx,a_vs,a_vb⟩,⟨a_wk,a_wn,a_wx,a_ws,a_wb⟩,a_set⟩ : Pred)) (h_b : Pred.ok (⟨b_name,b_test,⟨b_vk,b_vn,b_vx,b_vs,b_vb⟩,⟨b_wk,b_wn,b_wx,b_ws,b_wb⟩,b_set⟩ : Pred)) (fr : Fr) (st : St) : callStep gS (EvF gS) 80 [.agg [.str a_name,.int .i64 a_test,.int .i64 a_vk,.int .i64 a_vn,.float .f64 a_vx,.str a_vs,.bool a_vb,.int .i64 a_wk,.int .i64 a_wn,.float .f64 a_wx,.str a_ws,.bool a_wb,.slice (encVals a_set)],.agg [.str b_name,.int .i64 b_test,.int .i64 b_vk,.int .i64 b_vn,.float .f64 b_vx,.str b_vs,.bool b_vb,.int .i64 b_wk,.int .i64 b_wn,.float .f64 b_wx,.str b_ws,.bool b_wb,.slice (encVals b_set)]] fr st = some (.ok (retE none (.bool (psame (⟨a_name,a_test,⟨a_vk,a_vn,a_vx,a_vs,a_vb⟩,⟨a_wk,a_wn,a_wx,a_ws,a_wb⟩,a_set⟩ : Pred) (⟨b_name,b_test,⟨b_vk,b_vn,b_vx,b_vs,b_vb⟩,⟨b_wk,b_wn,b_wx,b_ws,b_wb⟩,b_set⟩ : Pred)))) fr st) :=
  call_pure rfl fi25_eq rfl (fun st => c80 (⟨a_name,a_test,⟨a_vk,a_vn,a_vx,a_vs,a_vb⟩,⟨a_wk,a_wn,a_wx,a_ws,a_wb⟩,a_set⟩ : Pred) (⟨b_name,b_test,⟨b_vk,b_vn,b_vx,b_vs,b_vb⟩,⟨b_wk,b_wn,b_wx,b_ws,b_wb⟩,b_set⟩ : Pred) h_a h_b st) (by simp)
theorem x80 : gS.ext 80 = none := rfl
theorem p80 : fi80.pure = true := rfl
def fi84 : FI := { body := codeOf Try.f84,ntmps := 27,results := [.tmp 4],pers := [0,1,4,5],locals := [],pure := true,marks := [] }
theorem fi83_eq : gS.fn 84 = some fi84 := by kernel_rfl
theorem st84 (a0 a1 : V) : startFr fi84 [a0,a1] = { ps := [(0,.val a0),(1,.val a1),(4,.any),(5,.any)],ts := [],lc := [] } := rfl
def b84 : Code := mini (codeOf Try.f84)
def c84_6 : Code := .seq (codeN b84 37) .ret
def c84_5 : Code := .cond (.tmp 10) c84_6 .skip
def c84_3 : Code := .seq (codeN b84 9) c84_5
def c84_18 : Code := .cond (.tmp 14) .skip (.exit 0)
def c84_16 : Code := .seq (codeN b84 267) c84_18
def r84_24 : Array Oper := regOps (codeN (codeOf Try.f84) 1099)
def c84_24 : Code := .region 6 r84_24 true
def q84_24 : List (Oper × Fl) := [(mv 17 0 89,⟨true,false,true,false,false,false,true,true,false,false,[]⟩),
 (mv 18 5 3,⟨true,false,true,false,false,false,true,true,false,false,[]⟩),
 (ixa 19 89 17 18 0,⟨true,false,true,false,false,false,true,true,false,false,[]⟩),
 (ld 20 88 19 88,⟨true,false,true,false,false,false,true,true,false,false,[]⟩),
 (mv 21 1 89,⟨true,false,true,false,false,false,true,true,false,false,[]⟩),
 (mv 22 5 3,⟨true,false,true,false,true,false,true,true,false,false,[]⟩),
 (ixa 23 89 21 22 0,⟨true,false,true,false,true,false,true,true,false,false,[]⟩),
 (ld 24 88 23 88,⟨true,false,true,false,true,false,true,true,false,false,[]⟩),
 (cal 25 83 [(.tmp 20),(.tmp 24)] [88,88] 4,⟨true,true,true,false,true,true,true,true,false,false,[]⟩),
 (op1 26 (.unOp .not 4 (.tmp 25)) 4,⟨true,true,true,false,true,false,true,true,false,false,[]⟩)]
def c84_26 : Code := .seq (codeN b84 4683) .ret
def c84_25 : Code := .cond (.tmp 26) c84_26 .skip
def c84_23 : Code := .seq c84_24 c84_25
def c84_30 : Code := codeN b84 459
def c84_21 : Code := .seq (.block 1 c84_23) c84_30
def c84_15 : Code := .seq c84_16 c84_21
def c84_14 : Code := .loop c84_15
def c84_13 : Code := .block 0 c84_14
def c84_11 : Code := .seq (codeN b84 19) c84_13
def c84_31 : Code := .seq (codeN b84 23) .ret
def c84_10 : Code := .seq c84_11 c84_31
def c84_2 : Code := .seq c84_3 c84_10
def c84_0 : Code := .seq (codeN b84 2) c84_2
theorem E84 : evK gS fi84 c84_6 fr st k = opsR gS fi84 [op1 4 (.assign (.const (.bool false))) 4] fr st (.seq .ret k) ∧
 evK gS fi84 c84_5 fr st k = condK gS fi84 (fr.op (.tmp 10)).bool? c84_6 .skip fr st k ∧
 (evK gS fi84 c84_3 fr st k = opsR gS fi84 [mv 6 0 89,
 len1 7 6 89 3,
 mv 8 1 89,
 len1 9 8 89 3,
 bop 10 .neq 3 7 9 3 4] fr st (.seq c84_5 k)) ∧
 evK gS fi84 c84_18 fr st k = condK gS fi84 (fr.op (.tmp 14)).bool? .skip (.exit 0) fr st k ∧
 (evK gS fi84 c84_16 fr st k = opsR gS fi84 [mv 11 5 3,
 mv 12 0 89,
 len1 13 12 89 3,
 bop 14 .lss 3 11 13 3 4] fr st (.seq c84_18 k)) ∧
 evK gS fi84 c84_24 fr st k = drwR gS fi84 r84_24 q84_24 fr st k ∧
 evK gS fi84 c84_26 fr st k = opsR gS fi84 [op1 4 (.assign (.const (.bool false))) 4] fr st (.seq .ret k) ∧
 evK gS fi84 c84_25 fr st k = condK gS fi84 (fr.op (.tmp 26)).bool? c84_26 .skip fr st k ∧
 evK gS fi84 c84_23 fr st k = evK gS fi84 c84_24 fr st (.seq c84_25 k) ∧
 (evK gS fi84 c84_30 fr st k = opsR gS fi84 [mv 15 5 3,
 op1 16 (.binOp .add 3 (.tmp 15) (.const (.int .i64 1)) 3) 3,
 asn 5 16 3] fr st k) ∧
 evK gS fi84 c84_21 fr st k = evK gS fi84 c84_23 fr st (.blk 1 (.seq c84_30 k)) ∧
 evK gS fi84 c84_15 fr st k = evK gS fi84 c84_16 fr st (.seq c84_21 k) ∧
 evK gS fi84 c84_13 fr st k = evK gS fi84 c84_14 fr st (.blk 0 k) ∧
 evK gS fi84 c84_11 fr st k = opsR gS fi84 [op1 5 (.assign (.const (.int .i64 0))) 3] fr st (.seq c84_13 k) ∧
 evK gS fi84 c84_31 fr st k = opsR gS fi84 [op1 4 (.assign (.const (.bool true))) 4] fr st (.seq .ret k) ∧
 evK gS fi84 c84_10 fr st k = evK gS fi84 c84_11 fr st (.seq c84_31 k) ∧
 evK gS fi84 c84_2 fr st k = evK gS fi84 c84_3 fr st (.seq c84_10 k) ∧
 evK gS fi84 c84_0 fr st k = opsR gS fi84 [op1 4 (.assign (.const (.bool false))) 4] fr st (.seq c84_2 k) := ⟨evK_rs 2 rfl (by kernel_rfl),rfl,evK_rs 1 rfl (by kernel_rfl),rfl,evK_rs 4 rfl (by kernel_rfl),evK_dr 6 rfl (by kernel_rfl) (by kernel_rfl),evK_rs 7 rfl (by kernel_rfl),rfl,rfl,evK_r 5 (by kernel_rfl),rfl,rfl,rfl,evK_rs 3 rfl (by kernel_rfl),evK_rs 8 rfl (by kernel_rfl),rfl,rfl,evK_rs 0 rfl (by kernel_rfl)⟩
theorem m84 : mini fi84.body = c84_0 := by kernel_rfl
theorem n84_14 (fr : Fr) (st : St) (k : Kt) : nextK gS fi84 (.loop c84_15 k) .normal fr st = evK gS fi84 c84_14 fr st k := rfl
set_option maxHeartbeats 4000000 in
theorem L84_14 (a : List Val) (b : List Val) (h_a : a.length < 4611686018427387904) (st : St) : ∀ (n i : Nat) (j : Int)  (e4 : E) (T : List (Nat × E)) (X : List (Nat × List V)) (ht4 : e4.Tame) (hlen : a.length = b.length),j = (i : Int) → i ≤ (a).length → (a).length - i = n →
    evK gS fi84 c84_14 { ps := [(0,.val (.slice (encVals a))),(1,.val (.slice (encVals b))),(4,e4),(5,.val (.int .i64 j))],ts := T,lc := X } st (.blk 0 (.seq c84_31 .nil)) = some ((.ret (.bool (sames (a.drop i) (b.drop i))) none),st) := by
  intro n
  have hm : fi84.marks = [] := rfl
  have hl : fi84.locals = [] := rfl
  have hr : fi84.results = [.tmp 4] := rfl
  induction n with
  | zero =>
    intro i j  e4 T X ht4 hlen hj hi hn
    obtain rfl : i = (a).length := by omega
    subst hj
    have hz : b.drop a.length = [] := List.drop_eq_nil_of_le (by omega)
    refine evK_loop c84_15 _ st _ _ rfl ?_
    simp (config := { contextual := true,maxSteps := 10000000,maxDischargeDepth := 6 }) [-Int.not_le,-Int.not_lt,-Nat.not_le,-Nat.not_lt,ty3,ty4,ty88,ty89,eq88,hm,hl,hr,k83,x83,fi82_eq,p83,E84,q84_24,n84_14,ht4,hz]
    all_goals try simp (config := { contextual := true }) [-Int.not_le,-Int.not_lt,-Nat.not_le,-Nat.not_lt,sames]
    all_goals first | done | grind | omega | (trace_state; fail)
  | succ n ih =>
    intro i j  e4 T X ht4 hlen hj hi hn
    subst hj
    obtain ⟨x,hx⟩ : ∃ x,(a)[i]? = some x := ⟨(a)[i]'(by omega),List.getElem?_eq_getElem (by omega)⟩
    have hd := drop_get hx
    have hlt : (i : Int) < ((a).length : Int) := by omega
    have hlt2 : i < (a).length := by omega
    have hxe : (a)[i]'hlt2 = x := by rw [List.getElem?_eq_getElem hlt2] at hx; exact Option.some.inj hx
    have hw : IntKind.wrap .i64 ((i : Int) + 1) = (i : Int) + 1 := wrap64 (by omega) (by omega)
    obtain ⟨y,hy⟩ : ∃ y,(b)[i]? = some y := ⟨(b)[i]'(by omega),List.getElem?_eq_getElem (by omega)⟩
    have hyd := drop_get hy
    have hyl : i < (b).length := by omega
    have hye : (b)[i]'hyl = y := by rw [List.getElem?_eq_getElem hyl] at hy; exact Option.some.inj hy
    have IH := fun e4 T X ht4 hlen => ih (i + 1) ((i : Int) + 1) e4 T X ht4 hlen rfl (by omega) (by omega)
    refine evK_loop c84_15 _ st _ _ rfl ?_
    simp (config := { contextual := true,maxSteps := 10000000,maxDischargeDepth := 6 }) [-Int.not_le,-Int.not_lt,-Nat.not_le,-Nat.not_lt,ty3,ty4,ty88,ty89,eq88,hm,hl,hr,k83,x83,fi82_eq,p83,E84,q84_24,n84_14,ht4,hx,hxe,hd,hlt,hlt2,hw,IH,hy,hye,hyd,hlen]
    all_goals try simp (config := { contextual := true }) [-Int.not_le,-Int.not_lt,-Nat.not_le,-Nat.not_lt,sames]
    all_goals first | done | grind | omega | (trace_state; fail)
set_option maxHeartbeats 4000000 in
theorem c84 (a : List Val) (b : List Val)  (h_a : a.length < 4611686018427387904) (h_b : b.length < 4611686018427387904) (st : St) : EvF gS 84 [.slice (encVals a),.slice (encVals b)] st = some (.ret (.bool (sames a b)) none,st) := by
  refine EvF_start fi83_eq (fun x h => by cases h) m84 ?_
  rw [st84]
  have hm : fi84.marks = [] := rfl
  have hl : fi84.locals = [] := rfl
  have hr : fi84.results = [.tmp 4] := rfl
  simp (config := { contextual := true,maxSteps := 10000000,maxDischargeDepth := 6 }) [-Int.not_le,-Int.not_lt,-Nat.not_le,-Nat.not_lt,ty3,ty4,ty88,ty89,eq88,hm,hl,hr,k83,x83,fi82_eq,p83,E84,q84_24,n84_14,(fun e4 T X ht4 hlen => L84_14 a b h_a st _ 0 0  e4 T X ht4 hlen rfl (Nat.zero_le _) rfl),h_a,h_b]
  all_goals try simp (config := { contextual := true }) [-Int.not_le,-Int.not_lt,-Nat.not_le,-Nat.not_lt,sames_ne]
  all_goals first | done | grind | omega | (trace_state; fail)
theorem k84 (a : List Val) (b : List Val)  (h_a : a.length < 4611686018427387904) (h_b : b.length < 4611686018427387904) (fr : Fr) (st : St) : callStep gS (EvF gS) 84 [.slice (encVals a),.slice (encVals b)] fr st = some (.ok (retE none (.bool (sames a b))) fr st) :=
  call_pure rfl fi83_eq rfl (fun st => c84 a b h_a h_b st) (by simp)
def fi54 : FI := { body := codeOf Try.f54,ntmps := 38,results := [.tmp 4],pers := [0,1,2,3,4],locals := [2,3],pure := true,marks := [] }
theorem fi26_eq : gS.fn 54 = some fi54 := by kernel_rfl
theorem st54 (a0 a1 : V) : startFr fi54 [a0,a1] = { ps := [(0,.val a0),(1,.val a1),(2,.any),(3,.any),(4,.any)],ts := [],lc := [] } := rfl
def b54 : Code := mini (codeOf Try.f54)
def c54_2 : Code := .seq (codeN b54 5) .ret
theorem e54_2 : evK gS fi54 c54_2 fr st k = opsR gS fi54 [op1 5 (.fieldAddr 91 (.tmp 2) 0) 0,
 ld 6 9 5 9,
 op1 7 (.fieldAddr 91 (.tmp 3) 0) 0,
 ld 8 9 7 9,
 bop 9 .eql 9 6 8 9 4,
 mv 10 9 4,
 mk (some 11) (.fieldAddr 91 (.tmp 2) 1) 0 (some (5,true)),
 mk (some 12) (.load 3 (.tmp 11)) 3 (some (5,true)),
 mk (some 13) (.fieldAddr 91 (.tmp 3) 1) 0 (some (5,true)),
 mk (some 14) (.load 3 (.tmp 13)) 3 (some (5,true)),
 mk (some 15) (.binOp .eql 3 (.tmp 12) (.tmp 14) 3) 4 (some (5,true)),
 op1 16 (.pick (.tmp 10) (.tmp 15) (.const (.bool false))) 4,
 mv 17 16 4,
 mk (some 18) (.fieldAddr 91 (.tmp 2) 2) 0 (some (12,true)),
 mk (some 19) (.load 88 (.tmp 18)) 88 (some (12,true)),
 mk (some 20) (.fieldAddr 91 (.tmp 3) 2) 0 (some (12,true)),
 mk (some 21) (.load 88 (.tmp 20)) 88 (some (12,true)),
 mk (some 22) (.call { callee := (.value (.func 83)),args := #[(.tmp 19),(.tmp 21)],argTypes := #[88,88] }) 4 (some (12,true)),
 op1 23 (.pick (.tmp 17) (.tmp 22) (.const (.bool false))) 4,
 mv 24 23 4,
 mk (some 25) (.fieldAddr 91 (.tmp 2) 3) 0 (some (19,true)),
 mk (some 26) (.load 88 (.tmp 25)) 88 (some (19,true)),
 mk (some 27) (.fieldAddr 91 (.tmp 3) 3) 0 (some (19,true)),
 mk (some 28) (.load 88 (.tmp 27)) 88 (some (19,true)),
 mk (some 29) (.call { callee := (.value (.func 83)),args := #[(.tmp 26),(.tmp 28)],argTypes := #[88,88] }) 4 (some (19,true)),
 op1 30 (.pick (.tmp 24) (.tmp 29) (.const (.bool false))) 4,
 mv 31 30 4,
 mk (some 32) (.fieldAddr 91 (.tmp 2) 4) 0 (some (26,true)),
 mk (some 33) (.load 89 (.tmp 32)) 89 (some (26,true)),
 mk (some 34) (.fieldAddr 91 (.tmp 3) 4) 0 (some (26,true)),
 mk (some 35) (.load 89 (.tmp 34)) 89 (some (26,true)),
 mk (some 36) (.call { callee := (.value (.func 84)),args := #[(.tmp 33),(.tmp 35)],argTypes := #[89,89] }) 4 (some (26,true)),
 op1 37 (.pick (.tmp 31) (.tmp 36) (.const (.bool false))) 4,
 asn 4 37 4] fr st (.seq .ret k) := evK_rs 1 rfl (by kernel_rfl)
def c54_0 : Code := .seq (codeN b54 2) c54_2
theorem e54_0 : evK gS fi54 c54_0 fr st k = opsR gS fi54 [op1 2 (.box 91 (.tmp 0)) 0,
 op1 3 (.box 91 (.tmp 1)) 0,
 op1 4 (.assign (.const (.bool false))) 4] fr st (.seq c54_2 k) := evK_rs 0 rfl (by kernel_rfl)
theorem m54 : mini fi54.body = c54_0 := by kernel_rfl
set_option maxHeartbeats 4000000 in
theorem c54 (a : Pred) (b : Pred)  (h_a : Pred.ok a) (h_b : Pred.ok b) (st : St) : EvF gS 54 [a.enc,b.enc] st = some (.ret (.bool (psame a b)) none,st) := by
  refine EvF_start fi26_eq (fun x h => by cases h) m54 ?_
  rw [st54]
  have hm : fi54.marks = [] := rfl
  have hl : fi54.locals = [2,3] := rfl
  have hr : fi54.results = [.tmp 4] := rfl
  simp (config := { contextual := true,maxSteps := 10000000,maxDischargeDepth := 6 }) [-Int.not_le,-Int.not_lt,-Nat.not_le,-Nat.not_lt,ty3,ty4,ty9,ty88,ty89,ty91,eq88,hm,hl,hr,k83,k84,e54_2,e54_0,h_a.1,h_a.2,h_b.1,h_b.2]
  all_goals try simp (config := { contextual := true }) [-Int.not_le,-Int.not_lt,-Nat.not_le,-Nat.not_lt,psame]
  all_goals first | done | grind | omega | (trace_state; fail)
theorem k54 (a_name : List UInt8) (a_test : Int) (a_vk : Int) (a_vn : Int) (a_vx : Nat) (a_vs : List UInt8) (a_vb : Bool) (a_wk : Int) (a_wn : Int) (a_wx : Nat) (a_ws : List UInt8) (a_wb : Bool) (a_set : List Val) (b_name : List UInt8) (b_test : Int) (b_vk : Int) (b_vn : Int) (b_vx : Nat) (b_vs : List UInt8) (b_vb : Bool) (b_wk : Int) (b_wn : Int) (b_wx : Nat) (b_ws : List UInt8) (b_wb : Bool) (b_set : List Val)  (h_a : Pred.ok (⟨a_name,a_test,⟨a_vk,a_vn,a_vx,a_vs,a_vb⟩,⟨a_wk,a_wn,a_wx,a_ws,a_wb⟩,a_set⟩ : Pred)) (h_b : Pred.ok (⟨b_name,b_test,⟨b_vk,b_vn,b_vx,b_vs,b_vb⟩,⟨b_wk,b_wn,b_wx,b_ws,b_wb⟩,b_set⟩ : Pred)) (fr : Fr) (st : St) : callStep gS (EvF gS) 54 [.agg [.str a_name,.int .i64 a_test,.int .i64 a_vk,.int .i64 a_vn,.float .f64 a_vx,.str a_vs,.bool a_vb,.int .i64 a_wk,.int .i64 a_wn,.float .f64 a_wx,.str a_ws,.bool a_wb,.slice (encVals a_set)],.agg [.str b_name,.int .i64 b_test,.int .i64 b_vk,.int .i64 b_vn,.float .f64 b_vx,.str b_vs,.bool b_vb,.int .i64 b_wk,.int .i64 b_wn,.float .f64 b_wx,.str b_ws,.bool b_wb,.slice (encVals b_set)]] fr st = some (.ok (retE none (.bool (psame (⟨a_name,a_test,⟨a_vk,a_vn,a_vx,a_vs,a_vb⟩,⟨a_wk,a_wn,a_wx,a_ws,a_wb⟩,a_set⟩ : Pred) (⟨b_name,b_test,⟨b_vk,b_vn,b_vx,b_vs,b_vb⟩,⟨b_wk,b_wn,b_wx,b_ws,b_wb⟩,b_set⟩ : Pred)))) fr st) :=
  call_pure rfl fi26_eq rfl (fun st => c54 (⟨a_name,a_test,⟨a_vk,a_vn,a_vx,a_vs,a_vb⟩,⟨a_wk,a_wn,a_wx,a_ws,a_wb⟩,a_set⟩ : Pred) (⟨b_name,b_test,⟨b_vk,b_vn,b_vx,b_vs,b_vb⟩,⟨b_wk,b_wn,b_wx,b_ws,b_wb⟩,b_set⟩ : Pred) h_a h_b st) (by simp)
theorem x54 : gS.ext 54 = none := rfl
theorem p54 : fi54.pure = true := rfl
def fi77 : FI := { body := codeOf Try.f77,ntmps := 113,results := [.tmp 4],pers := [0,1,2,3,4,5,6,7,8,10,22,103,104,105],locals := [2,3,10],pure := true,marks := [] }
theorem fi21_eq : gS.fn 77 = some fi77 := by kernel_rfl
theorem st77 (a0 a1 : V) : startFr fi77 [a0,a1] = { ps := [(0,.val a0),(1,.val a1),(2,.any),(3,.any),(4,.any),(5,.any),(6,.any),(7,.any),(8,.any),(10,.any),(22,.any),(103,.any),(104,.any),(105,.any)],ts := [],lc := [] } := rfl
def b77 : Code := mini (codeOf Try.f77)
def c77_6 : Code := .seq (codeN b77 37) .ret
def c77_5 : Code := .cond (.tmp 13) c77_6 .skip
def c77_3 : Code := .seq (codeN b77 9) c77_5
def c77_19 : Code := .seq (codeN b77 599) .ret
def c77_25 : Code := .seq (codeN b77 2519) .ret
def c77_31 : Code := .seq (codeN b77 10199) .ret
def c77_37 : Code := .seq (codeN b77 40919) .ret
def c77_43 : Code := .seq (codeN b77 163799) .ret
def c77_49 : Code := .seq (codeN b77 655319) .ret
def c77_55 : Code := .seq (codeN b77 2621399) .ret
def c77_63 : Code := .seq (codeN b77 23068631) .ret
def c77_61 : Code := .seq (codeN b77 10485719) c77_63
def c77_69 : Code := .seq (codeN b77 41942999) .ret
def c77_68 : Code := .cond (.tmp 89) c77_69 .skip
def c77_66 : Code := .seq (codeN b77 12582871) c77_68
def c77_60 : Code := .cond (.tmp 68) c77_61 c77_66
def c77_58 : Code := .seq (codeN b77 3145687) c77_60
def c77_54 : Code := .cond (.tmp 61) c77_55 c77_58
def c77_52 : Code := .seq (codeN b77 786391) c77_54
def c77_48 : Code := .cond (.tmp 54) c77_49 c77_52
def c77_46 : Code := .seq (codeN b77 196567) c77_48
def c77_42 : Code := .cond (.tmp 47) c77_43 c77_46
def c77_40 : Code := .seq (codeN b77 49111) c77_42
def c77_36 : Code := .cond (.tmp 40) c77_37 c77_40
def c77_34 : Code := .seq (codeN b77 12247) c77_36
def c77_30 : Code := .cond (.tmp 32) c77_31 c77_34
def c77_28 : Code := .seq (codeN b77 3031) c77_30
def c77_24 : Code := .cond (.tmp 25) c77_25 c77_28
def c77_22 : Code := .seq (codeN b77 727) c77_24
def c77_18 : Code := .cond (.tmp 23) c77_19 c77_22
def c77_16 : Code := .seq (codeN b77 151) c77_18
def c77_15 : Code := .block 0 c77_16
def c77_13 : Code := .seq (codeN b77 39) c77_15
def c77_91 : Code := .seq (codeN b77 78639) .ret
def c77_90 : Code := .cond (.tmp 111) c77_91 .skip
def c77_88 : Code := .seq (codeN b77 21295) c77_90
def c77_86 : Code := .seq (codeN b77 9007) c77_88
def c77_95 : Code := codeN b77 3887
def c77_84 : Code := .seq (.block 2 c77_86) c77_95
def c77_80 : Code := .seq (.cond (.tmp 106) .skip (.exit 1)) c77_84
def c77_78 : Code := .seq (codeN b77 559) c77_80
def c77_77 : Code := .loop c77_78
def c77_76 : Code := .block 1 c77_77
def c77_74 : Code := .seq (codeN b77 79) c77_76
def c77_96 : Code := .seq (codeN b77 95) .ret
def c77_73 : Code := .seq c77_74 c77_96
def c77_12 : Code := .seq c77_13 c77_73
def c77_10 : Code := .seq (codeN b77 11) c77_12
def c77_2 : Code := .seq c77_3 c77_10
def c77_0 : Code := .seq (codeN b77 2) c77_2
theorem E77 : evK gS fi77 c77_6 fr st k = opsR gS fi77 [op1 4 (.assign (.const (.bool false))) 4] fr st (.seq .ret k) ∧
 evK gS fi77 c77_5 fr st k = condK gS fi77 (fr.op (.tmp 13)).bool? c77_6 .skip fr st k ∧
 (evK gS fi77 c77_3 fr st k = opsR gS fi77 [ld 11 91 2 91,
 cal 12 97 [(.tmp 11)] [91] 4,
 op1 13 (.unOp .not 4 (.tmp 12)) 4] fr st (.seq c77_5 k)) ∧
 evK gS fi77 c77_19 fr st k = opsR gS fi77 [op1 4 (.assign (.const (.bool true))) 4] fr st (.seq .ret k) ∧
 (evK gS fi77 c77_25 fr st k = opsR gS fi77 [mv 27 6 4,
 mv 28 27 4,
 mk (some 29) (.move (.tmp 5)) 3 (some (1,true)),
 mk (some 30) (.binOp .eql 3 (.tmp 29) (.const (.int .i64 0)) 3) 4 (some (1,true)),
 op1 31 (.pick (.tmp 28) (.tmp 30) (.const (.bool false))) 4,
 asn 4 31 4] fr st (.seq .ret k)) ∧
 (evK gS fi77 c77_31 fr st k = opsR gS fi77 [mv 34 6 4,
 mv 35 34 4,
 mk (some 36) (.move (.tmp 5)) 3 (some (1,true)),
 mk (some 37) (.binOp .eql 3 (.tmp 36) (.const (.int .i64 0)) 3) 4 (some (1,true)),
 op1 38 (.pick (.tmp 35) (.tmp 37) (.const (.bool false))) 4,
 op1 39 (.unOp .not 4 (.tmp 38)) 4,
 asn 4 39 4] fr st (.seq .ret k)) ∧
 (evK gS fi77 c77_37 fr st k = opsR gS fi77 [mv 42 6 4,
 mv 43 42 4,
 mk (some 44) (.move (.tmp 5)) 3 (some (1,true)),
 mk (some 45) (.binOp .lss 3 (.tmp 44) (.const (.int .i64 0)) 3) 4 (some (1,true)),
 op1 46 (.pick (.tmp 43) (.tmp 45) (.const (.bool false))) 4,
 asn 4 46 4] fr st (.seq .ret k)) ∧
 (evK gS fi77 c77_43 fr st k = opsR gS fi77 [mv 49 6 4,
 mv 50 49 4,
 mk (some 51) (.move (.tmp 5)) 3 (some (1,true)),
 mk (some 52) (.binOp .leq 3 (.tmp 51) (.const (.int .i64 0)) 3) 4 (some (1,true)),
 op1 53 (.pick (.tmp 50) (.tmp 52) (.const (.bool false))) 4,
 asn 4 53 4] fr st (.seq .ret k)) ∧
 (evK gS fi77 c77_49 fr st k = opsR gS fi77 [mv 56 6 4,
 mv 57 56 4,
 mk (some 58) (.move (.tmp 5)) 3 (some (1,true)),
 mk (some 59) (.binOp .gtr 3 (.tmp 58) (.const (.int .i64 0)) 3) 4 (some (1,true)),
 op1 60 (.pick (.tmp 57) (.tmp 59) (.const (.bool false))) 4,
 asn 4 60 4] fr st (.seq .ret k)) ∧
 (evK gS fi77 c77_55 fr st k = opsR gS fi77 [mv 63 6 4,
 mv 64 63 4,
 mk (some 65) (.move (.tmp 5)) 3 (some (1,true)),
 mk (some 66) (.binOp .geq 3 (.tmp 65) (.const (.int .i64 0)) 3) 4 (some (1,true)),
 op1 67 (.pick (.tmp 64) (.tmp 66) (.const (.bool false))) 4,
 asn 4 67 4] fr st (.seq .ret k)) ∧
 (evK gS fi77 c77_63 fr st k = opsR gS fi77 [mv 77 6 4,
 mv 78 77 4,
 mk (some 79) (.move (.tmp 5)) 3 (some (1,true)),
 mk (some 80) (.binOp .geq 3 (.tmp 79) (.const (.int .i64 0)) 3) 4 (some (1,true)),
 op1 81 (.pick (.tmp 78) (.tmp 80) (.const (.bool false))) 4,
 mv 82 81 4,
 mk (some 83) (.move (.tmp 8)) 4 (some (5,true)),
 op1 84 (.pick (.tmp 82) (.tmp 83) (.const (.bool false))) 4,
 mv 85 84 4,
 mk (some 86) (.move (.tmp 7)) 3 (some (8,true)),
 mk (some 87) (.binOp .leq 3 (.tmp 86) (.const (.int .i64 0)) 3) 4 (some (8,true)),
 op1 88 (.pick (.tmp 85) (.tmp 87) (.const (.bool false))) 4,
 asn 4 88 4] fr st (.seq .ret k)) ∧
 (evK gS fi77 c77_61 fr st k = opsR gS fi77 [ld 71 88 3 88,
 op1 72 (.fieldAddr 91 (.tmp 2) 3) 0,
 ld 73 88 72 88,
 cal 74 98 [(.tmp 71),(.tmp 73)] [88,88] 125,
 mv 70 74 125,
 op1 75 (.extract (.tmp 70) 0) 3,
 op1 76 (.extract (.tmp 70) 1) 4,
 asn 7 75 3,
 asn 8 76 4] fr st (.seq c77_63 k)) ∧
 (evK gS fi77 c77_69 fr st k = opsR gS fi77 [op1 91 (.fieldAddr 88 (.tmp 3) 0) 0,
 ld 92 3 91 3,
 op1 93 (.binOp .eql 3 (.tmp 92) (.const (.int .i64 3)) 3) 4,
 mv 94 93 4,
 mk (some 95) (.fieldAddr 88 (.tmp 3) 3) 0 (some (3,true)),
 mk (some 96) (.load 9 (.tmp 95)) 9 (some (3,true)),
 mk (some 97) (.fieldAddr 91 (.tmp 2) 2) 0 (some (3,true)),
 mk (some 98) (.fieldAddr 88 (.tmp 97) 3) 0 (some (3,true)),
 mk (some 99) (.load 9 (.tmp 98)) 9 (some (3,true)),
 mk (some 100) (.call { callee := (.value (.func 99)),args := #[(.tmp 96),(.tmp 99)],argTypes := #[9,9] }) 4 (some (3,true)),
 op1 101 (.pick (.tmp 94) (.tmp 100) (.const (.bool false))) 4,
 asn 4 101 4] fr st (.seq .ret k)) ∧
 evK gS fi77 c77_68 fr st k = condK gS fi77 (fr.op (.tmp 89)).bool? c77_69 .skip fr st k ∧
 (evK gS fi77 c77_66 fr st k = opsR gS fi77 [op1 90 (.binOp .eql 3 (.tmp 22) (.const (.int .i64 9)) 3) 4,
 asn 89 90 4] fr st (.seq c77_68 k)) ∧
 evK gS fi77 c77_60 fr st k = condK gS fi77 (fr.op (.tmp 68)).bool? c77_61 c77_66 fr st k ∧
 (evK gS fi77 c77_58 fr st k = opsR gS fi77 [op1 69 (.binOp .eql 3 (.tmp 22) (.const (.int .i64 8)) 3) 4,
 asn 68 69 4] fr st (.seq c77_60 k)) ∧
 evK gS fi77 c77_54 fr st k = condK gS fi77 (fr.op (.tmp 61)).bool? c77_55 c77_58 fr st k ∧
 (evK gS fi77 c77_52 fr st k = opsR gS fi77 [op1 62 (.binOp .eql 3 (.tmp 22) (.const (.int .i64 7)) 3) 4,
 asn 61 62 4] fr st (.seq c77_54 k)) ∧
 evK gS fi77 c77_48 fr st k = condK gS fi77 (fr.op (.tmp 54)).bool? c77_49 c77_52 fr st k ∧
 (evK gS fi77 c77_46 fr st k = opsR gS fi77 [op1 55 (.binOp .eql 3 (.tmp 22) (.const (.int .i64 6)) 3) 4,
 asn 54 55 4] fr st (.seq c77_48 k)) ∧
 evK gS fi77 c77_42 fr st k = condK gS fi77 (fr.op (.tmp 47)).bool? c77_43 c77_46 fr st k ∧
 (evK gS fi77 c77_40 fr st k = opsR gS fi77 [op1 48 (.binOp .eql 3 (.tmp 22) (.const (.int .i64 5)) 3) 4,
 asn 47 48 4] fr st (.seq c77_42 k)) ∧
 evK gS fi77 c77_36 fr st k = condK gS fi77 (fr.op (.tmp 40)).bool? c77_37 c77_40 fr st k ∧
 (evK gS fi77 c77_34 fr st k = opsR gS fi77 [op1 41 (.binOp .eql 3 (.tmp 22) (.const (.int .i64 4)) 3) 4,
 asn 40 41 4] fr st (.seq c77_36 k)) ∧
 evK gS fi77 c77_30 fr st k = condK gS fi77 (fr.op (.tmp 32)).bool? c77_31 c77_34 fr st k ∧
 (evK gS fi77 c77_28 fr st k = opsR gS fi77 [op1 33 (.binOp .eql 3 (.tmp 22) (.const (.int .i64 3)) 3) 4,
 asn 32 33 4] fr st (.seq c77_30 k)) ∧
 evK gS fi77 c77_24 fr st k = condK gS fi77 (fr.op (.tmp 25)).bool? c77_25 c77_28 fr st k ∧
 (evK gS fi77 c77_22 fr st k = opsR gS fi77 [op1 26 (.binOp .eql 3 (.tmp 22) (.const (.int .i64 2)) 3) 4,
 asn 25 26 4] fr st (.seq c77_24 k)) ∧
 evK gS fi77 c77_18 fr st k = condK gS fi77 (fr.op (.tmp 23)).bool? c77_19 c77_22 fr st k ∧
 (evK gS fi77 c77_16 fr st k = opsR gS fi77 [op1 24 (.binOp .eql 3 (.tmp 22) (.const (.int .i64 1)) 3) 4,
 asn 23 24 4] fr st (.seq c77_18 k)) ∧
 evK gS fi77 c77_15 fr st k = evK gS fi77 c77_16 fr st (.blk 0 k) ∧
 (evK gS fi77 c77_13 fr st k = opsR gS fi77 [op1 21 (.fieldAddr 91 (.tmp 2) 1) 0,
 ld 22 3 21 3] fr st (.seq c77_15 k)) ∧
 evK gS fi77 c77_91 fr st k = opsR gS fi77 [op1 4 (.assign (.const (.bool true))) 4] fr st (.seq .ret k) ∧
 evK gS fi77 c77_90 fr st k = condK gS fi77 (fr.op (.tmp 111)).bool? c77_91 .skip fr st k ∧
 (evK gS fi77 c77_88 fr st k = opsR gS fi77 [ld 109 88 3 88,
 ld 110 88 10 88,
 cal 111 100 [(.tmp 109),(.tmp 110)] [88,88] 4] fr st (.seq c77_90 k)) ∧
 (evK gS fi77 c77_86 fr st k = opsR gS fi77 [ixa 107 89 103 105 0,
 ld 108 88 107 88,
 op1 10 (.alloc 88) 0,
 sto 88 10 108] fr st (.seq c77_88 k)) ∧
 (evK gS fi77 c77_95 fr st k = opsR gS fi77 [op1 112 (.binOp .add 3 (.tmp 105) (.const (.int .i64 1)) 3) 3,
 mv 105 112 3] fr st k) ∧
 evK gS fi77 c77_84 fr st k = evK gS fi77 c77_86 fr st (.blk 2 (.seq c77_95 k)) ∧
 evK gS fi77 c77_80 fr st k = condK gS fi77 (fr.op (.tmp 106)).bool? .skip (.exit 1) fr st (.seq c77_84 k) ∧
 evK gS fi77 c77_78 fr st k = opsR gS fi77 [bop 106 .lss 3 105 104 3 0] fr st (.seq c77_80 k) ∧
 evK gS fi77 c77_76 fr st k = evK gS fi77 c77_77 fr st (.blk 1 k) ∧
 (evK gS fi77 c77_74 fr st k = opsR gS fi77 [op1 102 (.fieldAddr 91 (.tmp 2) 4) 0,
 ld 103 89 102 89,
 len1 104 103 89 3,
 op1 105 (.move (.const (.int .i64 0))) 3] fr st (.seq c77_76 k)) ∧
 evK gS fi77 c77_96 fr st k = opsR gS fi77 [op1 4 (.assign (.const (.bool false))) 4] fr st (.seq .ret k) ∧
 evK gS fi77 c77_73 fr st k = evK gS fi77 c77_74 fr st (.seq c77_96 k) ∧
 evK gS fi77 c77_12 fr st k = evK gS fi77 c77_13 fr st (.seq c77_73 k) ∧
 (evK gS fi77 c77_10 fr st k = opsR gS fi77 [ld 15 88 3 88,
 op1 16 (.fieldAddr 91 (.tmp 2) 2) 0,
 ld 17 88 16 88,
 cal 18 98 [(.tmp 15),(.tmp 17)] [88,88] 125,
 mv 14 18 125,
 op1 19 (.extract (.tmp 14) 0) 3,
 op1 20 (.extract (.tmp 14) 1) 4,
 asn 5 19 3,
 asn 6 20 4] fr st (.seq c77_12 k)) ∧
 evK gS fi77 c77_2 fr st k = evK gS fi77 c77_3 fr st (.seq c77_10 k) ∧
 (evK gS fi77 c77_0 fr st k = opsR gS fi77 [op1 2 (.box 91 (.tmp 0)) 0,
 op1 3 (.box 88 (.tmp 1)) 0,
 op1 4 (.assign (.const (.bool false))) 4] fr st (.seq c77_2 k)) := ⟨evK_rs 2 rfl (by kernel_rfl),rfl,evK_rs 1 rfl (by kernel_rfl),evK_rs 6 rfl (by kernel_rfl),evK_rs 8 rfl (by kernel_rfl),evK_rs 10 rfl (by kernel_rfl),evK_rs 12 rfl (by kernel_rfl),evK_rs 14 rfl (by kernel_rfl),evK_rs 16 rfl (by kernel_rfl),evK_rs 18 rfl (by kernel_rfl),evK_rs 21 rfl (by kernel_rfl),evK_rs 20 rfl (by kernel_rfl),evK_rs 23 rfl (by kernel_rfl),rfl,evK_rs 22 rfl (by kernel_rfl),rfl,evK_rs 19 rfl (by kernel_rfl),rfl,evK_rs 17 rfl (by kernel_rfl),rfl,evK_rs 15 rfl (by kernel_rfl),rfl,evK_rs 13 rfl (by kernel_rfl),rfl,evK_rs 11 rfl (by kernel_rfl),rfl,evK_rs 9 rfl (by kernel_rfl),rfl,evK_rs 7 rfl (by kernel_rfl),rfl,evK_rs 5 rfl (by kernel_rfl),rfl,evK_rs 4 rfl (by kernel_rfl),evK_rs 28 rfl (by kernel_rfl),rfl,evK_rs 27 rfl (by kernel_rfl),evK_rs 26 rfl (by kernel_rfl),evK_r 29 (by kernel_rfl),rfl,rfl,evK_rs 25 rfl (by kernel_rfl),rfl,evK_rs 24 rfl (by kernel_rfl),evK_rs 30 rfl (by kernel_rfl),rfl,rfl,evK_rs 3 rfl (by kernel_rfl),rfl,evK_rs 0 rfl (by kernel_rfl)⟩
theorem m77 : mini fi77.body = c77_0 := by kernel_rfl
theorem n77_77 (fr : Fr) (st : St) (k : Kt) : nextK gS fi77 (.loop c77_78 k) .normal fr st = evK gS fi77 c77_77 fr st k := rfl
set_option maxHeartbeats 4000000 in
theorem L77_77 (p : Pred) (v : Val) (h_p : p.ok) (st : St) : ∀ (n i : Nat) (j : Int)  (e0 e1 e2 e4 e5 e6 e7 e8 e10 e22 : E) (T : List (Nat × E)) (X : List (Nat × List V)) (ht0 : e0.Tame) (ht1 : e1.Tame) (ht2 : e2.Tame) (ht4 : e4.Tame) (ht5 : e5.Tame) (ht6 : e6.Tame) (ht7 : e7.Tame) (ht8 : e8.Tame) (ht10 : e10.Tame) (ht22 : e22.Tame) (hx3 : lk X 3 = some [.int .i64 v.kind,.int .i64 v.n,.float .f64 v.x,.str v.s,.bool v.b]) ,j = (i : Int) → i ≤ (p.set).length → (p.set).length - i = n →
    evK gS fi77 c77_77 { ps := [(0,e0),(1,e1),(2,e2),(3,.lp 3 0),(4,e4),(5,e5),(6,e6),(7,e7),(8,e8),(10,e10),(22,e22),(103,.val (.slice (encVals p.set))),(104,.val (.int .i64 p.set.length)),(105,.val (.int .i64 j))],ts := T,lc := X } st (.blk 1 (.seq c77_96 .nil)) = some ((.ret (.bool ((p.set.drop i).any (vis v))) none),st) := by
  intro n
  have hm : fi77.marks = [] := rfl
  have hl : fi77.locals = [2,3,10] := rfl
  have hr : fi77.results = [.tmp 4] := rfl
  have hpo := h_p.2
  induction n with
  | zero =>
    intro i j  e0 e1 e2 e4 e5 e6 e7 e8 e10 e22 T X ht0 ht1 ht2 ht4 ht5 ht6 ht7 ht8 ht10 ht22 hx3  hj hi hn
    obtain rfl : i = (p.set).length := by omega
    subst hj
    refine evK_loop c77_78 _ st _ _ rfl ?_
    simp (config := { contextual := true,maxSteps := 10000000,maxDischargeDepth := 6 }) [-Int.not_le,-Int.not_lt,-Nat.not_le,-Nat.not_lt,ty3,ty4,ty9,ty88,ty89,ty91,eq88,hm,hl,hr,k97,k100,k98,k99,E77,n77_77,ht0,ht1,ht2,ht4,ht5,ht6,ht7,ht8,ht10,ht22,hx3]
    all_goals first | done | grind | omega | (trace_state; fail)
  | succ n ih =>
    intro i j  e0 e1 e2 e4 e5 e6 e7 e8 e10 e22 T X ht0 ht1 ht2 ht4 ht5 ht6 ht7 ht8 ht10 ht22 hx3  hj hi hn
    subst hj
    obtain ⟨x,hx⟩ : ∃ x,(p.set)[i]? = some x := ⟨(p.set)[i]'(by omega),List.getElem?_eq_getElem (by omega)⟩
    have hd := drop_get hx
    have hlt : (i : Int) < ((p.set).length : Int) := by omega
    have hlt2 : i < (p.set).length := by omega
    have hxe : (p.set)[i]'hlt2 = x := by rw [List.getElem?_eq_getElem hlt2] at hx; exact Option.some.inj hx
    have hw : IntKind.wrap .i64 ((i : Int) + 1) = (i : Int) + 1 := wrap64 (by omega) (by omega)
    have IH := fun e0 e1 e2 e4 e5 e6 e7 e8 e10 e22 T X ht0 ht1 ht2 ht4 ht5 ht6 ht7 ht8 ht10 ht22 hx3 => ih (i + 1) ((i : Int) + 1) e0 e1 e2 e4 e5 e6 e7 e8 e10 e22 T X ht0 ht1 ht2 ht4 ht5 ht6 ht7 ht8 ht10 ht22 hx3 rfl (by omega) (by omega)
    refine evK_loop c77_78 _ st _ _ rfl ?_
    simp (config := { contextual := true,maxSteps := 10000000,maxDischargeDepth := 6 }) [-Int.not_le,-Int.not_lt,-Nat.not_le,-Nat.not_lt,ty3,ty4,ty9,ty88,ty89,ty91,eq88,hm,hl,hr,k97,k100,k98,k99,E77,n77_77,ht0,ht1,ht2,ht4,ht5,ht6,ht7,ht8,ht10,ht22,hx3,hx,hxe,hd,hlt,hlt2,hw,IH]
    all_goals first | done | grind | omega | (trace_state; fail)
set_option maxHeartbeats 4000000 in
theorem c77 (p : Pred) (v : Val)  (h_p : Pred.ok p) (st : St) : EvF gS 77 [p.enc,v.enc] st = some (.ret (.bool (ptakes p v)) none,st) := by
  refine EvF_start fi21_eq (fun x h => by cases h) m77 ?_
  rw [st77]
  have hm : fi77.marks = [] := rfl
  have hl : fi77.locals = [2,3,10] := rfl
  have hr : fi77.results = [.tmp 4] := rfl
  simp (config := { contextual := true,maxSteps := 10000000,maxDischargeDepth := 6 }) [-Int.not_le,-Int.not_lt,-Nat.not_le,-Nat.not_lt,ty3,ty4,ty9,ty88,ty89,ty91,eq88,hm,hl,hr,k97,k100,k98,k99,E77,n77_77,(fun e0 e1 e2 e4 e5 e6 e7 e8 e10 e22 T X ht0 ht1 ht2 ht4 ht5 ht6 ht7 ht8 ht10 ht22 hx3 => L77_77 p v h_p st _ 0 0  e0 e1 e2 e4 e5 e6 e7 e8 e10 e22 T X ht0 ht1 ht2 ht4 ht5 ht6 ht7 ht8 ht10 ht22 hx3 rfl (Nat.zero_le _) rfl),h_p.1,h_p.2]
  all_goals try simp (config := { contextual := true }) [-Int.not_le,-Int.not_lt,-Nat.not_le,-Nat.not_lt,ptakes]
  all_goals first | done | grind | omega | (trace_state; fail)
theorem k77 (p_name : List UInt8) (p_test : Int) (p_vk : Int) (p_vn : Int) (p_vx : Nat) (p_vs : List UInt8) (p_vb : Bool) (p_wk : Int) (p_wn : Int) (p_wx : Nat) (p_ws : List UInt8) (p_wb : Bool) (p_set : List Val) (v_k : Int) (v_n : Int) (v_x : Nat) (v_s : List UInt8) (v_b : Bool)  (h_p : Pred.ok (⟨p_name,p_test,⟨p_vk,p_vn,p_vx,p_vs,p_vb⟩,⟨p_wk,p_wn,p_wx,p_ws,p_wb⟩,p_set⟩ : Pred)) (fr : Fr) (st : St) : callStep gS (EvF gS) 77 [.agg [.str p_name,.int .i64 p_test,.int .i64 p_vk,.int .i64 p_vn,.float .f64 p_vx,.str p_vs,.bool p_vb,.int .i64 p_wk,.int .i64 p_wn,.float .f64 p_wx,.str p_ws,.bool p_wb,.slice (encVals p_set)],.agg [.int .i64 v_k,.int .i64 v_n,.float .f64 v_x,.str v_s,.bool v_b]] fr st = some (.ok (retE none (.bool (ptakes (⟨p_name,p_test,⟨p_vk,p_vn,p_vx,p_vs,p_vb⟩,⟨p_wk,p_wn,p_wx,p_ws,p_wb⟩,p_set⟩ : Pred) (⟨v_k,v_n,v_x,v_s,v_b⟩ : Val)))) fr st) :=
  call_pure rfl fi21_eq rfl (fun st => c77 (⟨p_name,p_test,⟨p_vk,p_vn,p_vx,p_vs,p_vb⟩,⟨p_wk,p_wn,p_wx,p_ws,p_wb⟩,p_set⟩ : Pred) (⟨v_k,v_n,v_x,v_s,v_b⟩ : Val) h_p st) (by simp)
def fi87 : FI := { body := codeOf Try.f87,ntmps := 115,results := [.tmp 4],pers := [0,1,2,3,4,5,6,7,8,9,21],locals := [2,3],pure := true,marks := [] }
theorem fi22_eq : gS.fn 87 = some fi87 := by kernel_rfl
theorem st87 (a0 a1 : V) : startFr fi87 [a0,a1] = { ps := [(0,.val a0),(1,.val a1),(2,.any),(3,.any),(4,.any),(5,.any),(6,.any),(7,.any),(8,.any),(9,.any),(21,.any)],ts := [],lc := [] } := rfl
def b87 : Code := mini (codeOf Try.f87)
def c87_6 : Code := .seq (codeN b87 37) .ret
def c87_5 : Code := .cond (.tmp 12) c87_6 .skip
def c87_3 : Code := .seq (codeN b87 9) c87_5
def c87_19 : Code := .seq (codeN b87 599) .ret
def c87_25 : Code := .seq (codeN b87 2519) .ret
def c87_31 : Code := .seq (codeN b87 10199) .ret
def c87_37 : Code := .seq (codeN b87 40919) .ret
def c87_43 : Code := .seq (codeN b87 163799) .ret
def c87_49 : Code := .seq (codeN b87 655319) .ret
def c87_55 : Code := .seq (codeN b87 2621399) .ret
def c87_63 : Code := .seq (codeN b87 23068631) .ret
def c87_61 : Code := .seq (codeN b87 10485719) c87_63
def c87_69 : Code := .seq (codeN b87 41942999) .ret
def c87_68 : Code := .cond (.tmp 88) c87_69 .skip
def c87_66 : Code := .seq (codeN b87 12582871) c87_68
def c87_60 : Code := .cond (.tmp 67) c87_61 c87_66
def c87_58 : Code := .seq (codeN b87 3145687) c87_60
def c87_54 : Code := .cond (.tmp 60) c87_55 c87_58
def c87_52 : Code := .seq (codeN b87 786391) c87_54
def c87_48 : Code := .cond (.tmp 53) c87_49 c87_52
def c87_46 : Code := .seq (codeN b87 196567) c87_48
def c87_42 : Code := .cond (.tmp 46) c87_43 c87_46
def c87_40 : Code := .seq (codeN b87 49111) c87_42
def c87_36 : Code := .cond (.tmp 39) c87_37 c87_40
def c87_34 : Code := .seq (codeN b87 12247) c87_36
def c87_30 : Code := .cond (.tmp 31) c87_31 c87_34
def c87_28 : Code := .seq (codeN b87 3031) c87_30
def c87_24 : Code := .cond (.tmp 24) c87_25 c87_28
def c87_22 : Code := .seq (codeN b87 727) c87_24
def c87_18 : Code := .cond (.tmp 22) c87_19 c87_22
def c87_16 : Code := .seq (codeN b87 151) c87_18
def c87_15 : Code := .block 0 c87_16
def c87_13 : Code := .seq (codeN b87 39) c87_15
def c87_81 : Code := .cond (.tmp 105) .skip (.exit 1)
def c87_79 : Code := .seq (codeN b87 1071) c87_81
def r87_87 : Array Oper := regOps (codeN (codeOf Try.f87) 4399)
def c87_87 : Code := .region 27 r87_87 true
def q87_87 : List (Oper × Fl) := [(ld 108 88 3 88,⟨true,false,true,false,false,false,true,true,false,false,[]⟩),
 (op1 109 (.fieldAddr 91 (.tmp 2) 4) 0,⟨true,false,true,false,false,false,true,true,false,false,[]⟩),
 (ld 110 89 109 89,⟨true,false,true,false,false,false,true,true,false,false,[]⟩),
 (mv 111 9 3,⟨true,false,true,false,true,false,true,true,false,false,[]⟩),
 (ixa 112 89 110 111 0,⟨true,false,true,false,true,false,true,true,false,false,[]⟩),
 (ld 113 88 112 88,⟨true,false,true,false,true,false,true,true,false,false,[]⟩),
 (cal 114 110 [(.tmp 108),(.tmp 113)] [88,88] 4,⟨true,true,true,false,true,true,true,true,false,false,[]⟩)]
def c87_89 : Code := .seq (codeN b87 18735) .ret
def c87_88 : Code := .cond (.tmp 114) c87_89 .skip
def c87_86 : Code := .seq c87_87 c87_88
def c87_93 : Code := codeN b87 1839
def c87_84 : Code := .seq (.block 2 c87_86) c87_93
def c87_78 : Code := .seq c87_79 c87_84
def c87_77 : Code := .loop c87_78
def c87_76 : Code := .block 1 c87_77
def c87_74 : Code := .seq (codeN b87 79) c87_76
def c87_94 : Code := .seq (codeN b87 95) .ret
def c87_73 : Code := .seq c87_74 c87_94
def c87_12 : Code := .seq c87_13 c87_73
def c87_10 : Code := .seq (codeN b87 11) c87_12
def c87_2 : Code := .seq c87_3 c87_10
def c87_0 : Code := .seq (codeN b87 2) c87_2
theorem E87 : evK gS fi87 c87_6 fr st k = opsR gS fi87 [op1 4 (.assign (.const (.bool false))) 4] fr st (.seq .ret k) ∧
 evK gS fi87 c87_5 fr st k = condK gS fi87 (fr.op (.tmp 12)).bool? c87_6 .skip fr st k ∧
 (evK gS fi87 c87_3 fr st k = opsR gS fi87 [ld 10 91 2 91,
 cal 11 107 [(.tmp 10)] [91] 4,
 op1 12 (.unOp .not 4 (.tmp 11)) 4] fr st (.seq c87_5 k)) ∧
 evK gS fi87 c87_19 fr st k = opsR gS fi87 [op1 4 (.assign (.const (.bool true))) 4] fr st (.seq .ret k) ∧
 (evK gS fi87 c87_25 fr st k = opsR gS fi87 [mv 26 6 4,
 mv 27 26 4,
 mk (some 28) (.move (.tmp 5)) 3 (some (1,true)),
 mk (some 29) (.binOp .eql 3 (.tmp 28) (.const (.int .i64 0)) 3) 4 (some (1,true)),
 op1 30 (.pick (.tmp 27) (.tmp 29) (.const (.bool false))) 4,
 asn 4 30 4] fr st (.seq .ret k)) ∧
 (evK gS fi87 c87_31 fr st k = opsR gS fi87 [mv 33 6 4,
 op1 34 (.unOp .not 4 (.tmp 33)) 4,
 mv 35 34 4,
 mk (some 36) (.move (.tmp 5)) 3 (some (2,false)),
 mk (some 37) (.binOp .neq 3 (.tmp 36) (.const (.int .i64 0)) 3) 4 (some (2,false)),
 op1 38 (.pick (.tmp 35) (.const (.bool true)) (.tmp 37)) 4,
 asn 4 38 4] fr st (.seq .ret k)) ∧
 (evK gS fi87 c87_37 fr st k = opsR gS fi87 [mv 41 6 4,
 mv 42 41 4,
 mk (some 43) (.move (.tmp 5)) 3 (some (1,true)),
 mk (some 44) (.binOp .lss 3 (.tmp 43) (.const (.int .i64 0)) 3) 4 (some (1,true)),
 op1 45 (.pick (.tmp 42) (.tmp 44) (.const (.bool false))) 4,
 asn 4 45 4] fr st (.seq .ret k)) ∧
 (evK gS fi87 c87_43 fr st k = opsR gS fi87 [mv 48 6 4,
 mv 49 48 4,
 mk (some 50) (.move (.tmp 5)) 3 (some (1,true)),
 mk (some 51) (.binOp .leq 3 (.tmp 50) (.const (.int .i64 0)) 3) 4 (some (1,true)),
 op1 52 (.pick (.tmp 49) (.tmp 51) (.const (.bool false))) 4,
 asn 4 52 4] fr st (.seq .ret k)) ∧
 (evK gS fi87 c87_49 fr st k = opsR gS fi87 [mv 55 6 4,
 mv 56 55 4,
 mk (some 57) (.move (.tmp 5)) 3 (some (1,true)),
 mk (some 58) (.binOp .gtr 3 (.tmp 57) (.const (.int .i64 0)) 3) 4 (some (1,true)),
 op1 59 (.pick (.tmp 56) (.tmp 58) (.const (.bool false))) 4,
 asn 4 59 4] fr st (.seq .ret k)) ∧
 (evK gS fi87 c87_55 fr st k = opsR gS fi87 [mv 62 6 4,
 mv 63 62 4,
 mk (some 64) (.move (.tmp 5)) 3 (some (1,true)),
 mk (some 65) (.binOp .geq 3 (.tmp 64) (.const (.int .i64 0)) 3) 4 (some (1,true)),
 op1 66 (.pick (.tmp 63) (.tmp 65) (.const (.bool false))) 4,
 asn 4 66 4] fr st (.seq .ret k)) ∧
 (evK gS fi87 c87_63 fr st k = opsR gS fi87 [mv 76 6 4,
 mv 77 76 4,
 mk (some 78) (.move (.tmp 8)) 4 (some (1,true)),
 op1 79 (.pick (.tmp 77) (.tmp 78) (.const (.bool false))) 4,
 mv 80 79 4,
 mk (some 81) (.move (.tmp 5)) 3 (some (4,true)),
 mk (some 82) (.binOp .geq 3 (.tmp 81) (.const (.int .i64 0)) 3) 4 (some (4,true)),
 op1 83 (.pick (.tmp 80) (.tmp 82) (.const (.bool false))) 4,
 mv 84 83 4,
 mk (some 85) (.move (.tmp 7)) 3 (some (8,true)),
 mk (some 86) (.binOp .leq 3 (.tmp 85) (.const (.int .i64 0)) 3) 4 (some (8,true)),
 op1 87 (.pick (.tmp 84) (.tmp 86) (.const (.bool false))) 4,
 asn 4 87 4] fr st (.seq .ret k)) ∧
 (evK gS fi87 c87_61 fr st k = opsR gS fi87 [ld 70 88 3 88,
 op1 71 (.fieldAddr 91 (.tmp 2) 3) 0,
 ld 72 88 71 88,
 cal 73 108 [(.tmp 70),(.tmp 72)] [88,88] 125,
 mv 69 73 125,
 op1 74 (.extract (.tmp 69) 0) 3,
 op1 75 (.extract (.tmp 69) 1) 4,
 asn 7 74 3,
 asn 8 75 4] fr st (.seq c87_63 k)) ∧
 (evK gS fi87 c87_69 fr st k = opsR gS fi87 [op1 90 (.fieldAddr 88 (.tmp 3) 0) 0,
 ld 91 3 90 3,
 op1 92 (.binOp .eql 3 (.tmp 91) (.const (.int .i64 3)) 3) 4,
 mv 93 92 4,
 mk (some 94) (.fieldAddr 88 (.tmp 3) 3) 0 (some (3,true)),
 mk (some 95) (.load 9 (.tmp 94)) 9 (some (3,true)),
 mk (some 96) (.fieldAddr 91 (.tmp 2) 2) 0 (some (3,true)),
 mk (some 97) (.fieldAddr 88 (.tmp 96) 3) 0 (some (3,true)),
 mk (some 98) (.load 9 (.tmp 97)) 9 (some (3,true)),
 mk (some 99) (.call { callee := (.value (.func 109)),args := #[(.tmp 95),(.tmp 98)],argTypes := #[9,9] }) 4 (some (3,true)),
 op1 100 (.pick (.tmp 93) (.tmp 99) (.const (.bool false))) 4,
 asn 4 100 4] fr st (.seq .ret k)) ∧
 evK gS fi87 c87_68 fr st k = condK gS fi87 (fr.op (.tmp 88)).bool? c87_69 .skip fr st k ∧
 (evK gS fi87 c87_66 fr st k = opsR gS fi87 [op1 89 (.binOp .eql 3 (.tmp 21) (.const (.int .i64 9)) 3) 4,
 asn 88 89 4] fr st (.seq c87_68 k)) ∧
 evK gS fi87 c87_60 fr st k = condK gS fi87 (fr.op (.tmp 67)).bool? c87_61 c87_66 fr st k ∧
 (evK gS fi87 c87_58 fr st k = opsR gS fi87 [op1 68 (.binOp .eql 3 (.tmp 21) (.const (.int .i64 8)) 3) 4,
 asn 67 68 4] fr st (.seq c87_60 k)) ∧
 evK gS fi87 c87_54 fr st k = condK gS fi87 (fr.op (.tmp 60)).bool? c87_55 c87_58 fr st k ∧
 (evK gS fi87 c87_52 fr st k = opsR gS fi87 [op1 61 (.binOp .eql 3 (.tmp 21) (.const (.int .i64 7)) 3) 4,
 asn 60 61 4] fr st (.seq c87_54 k)) ∧
 evK gS fi87 c87_48 fr st k = condK gS fi87 (fr.op (.tmp 53)).bool? c87_49 c87_52 fr st k ∧
 (evK gS fi87 c87_46 fr st k = opsR gS fi87 [op1 54 (.binOp .eql 3 (.tmp 21) (.const (.int .i64 6)) 3) 4,
 asn 53 54 4] fr st (.seq c87_48 k)) ∧
 evK gS fi87 c87_42 fr st k = condK gS fi87 (fr.op (.tmp 46)).bool? c87_43 c87_46 fr st k ∧
 (evK gS fi87 c87_40 fr st k = opsR gS fi87 [op1 47 (.binOp .eql 3 (.tmp 21) (.const (.int .i64 5)) 3) 4,
 asn 46 47 4] fr st (.seq c87_42 k)) ∧
 evK gS fi87 c87_36 fr st k = condK gS fi87 (fr.op (.tmp 39)).bool? c87_37 c87_40 fr st k ∧
 (evK gS fi87 c87_34 fr st k = opsR gS fi87 [op1 40 (.binOp .eql 3 (.tmp 21) (.const (.int .i64 4)) 3) 4,
 asn 39 40 4] fr st (.seq c87_36 k)) ∧
 evK gS fi87 c87_30 fr st k = condK gS fi87 (fr.op (.tmp 31)).bool? c87_31 c87_34 fr st k ∧
 (evK gS fi87 c87_28 fr st k = opsR gS fi87 [op1 32 (.binOp .eql 3 (.tmp 21) (.const (.int .i64 3)) 3) 4,
 asn 31 32 4] fr st (.seq c87_30 k)) ∧
 evK gS fi87 c87_24 fr st k = condK gS fi87 (fr.op (.tmp 24)).bool? c87_25 c87_28 fr st k ∧
 (evK gS fi87 c87_22 fr st k = opsR gS fi87 [op1 25 (.binOp .eql 3 (.tmp 21) (.const (.int .i64 2)) 3) 4,
 asn 24 25 4] fr st (.seq c87_24 k)) ∧
 evK gS fi87 c87_18 fr st k = condK gS fi87 (fr.op (.tmp 22)).bool? c87_19 c87_22 fr st k ∧
 (evK gS fi87 c87_16 fr st k = opsR gS fi87 [op1 23 (.binOp .eql 3 (.tmp 21) (.const (.int .i64 1)) 3) 4,
 asn 22 23 4] fr st (.seq c87_18 k)) ∧
 evK gS fi87 c87_15 fr st k = evK gS fi87 c87_16 fr st (.blk 0 k) ∧
 (evK gS fi87 c87_13 fr st k = opsR gS fi87 [op1 20 (.fieldAddr 91 (.tmp 2) 1) 0,
 ld 21 3 20 3] fr st (.seq c87_15 k)) ∧
 evK gS fi87 c87_81 fr st k = condK gS fi87 (fr.op (.tmp 105)).bool? .skip (.exit 1) fr st k ∧
 (evK gS fi87 c87_79 fr st k = opsR gS fi87 [mv 101 9 3,
 op1 102 (.fieldAddr 91 (.tmp 2) 4) 0,
 ld 103 89 102 89,
 len1 104 103 89 3,
 bop 105 .lss 3 101 104 3 4] fr st (.seq c87_81 k)) ∧
 evK gS fi87 c87_87 fr st k = drwR gS fi87 r87_87 q87_87 fr st k ∧
 evK gS fi87 c87_89 fr st k = opsR gS fi87 [op1 4 (.assign (.const (.bool true))) 4] fr st (.seq .ret k) ∧
 evK gS fi87 c87_88 fr st k = condK gS fi87 (fr.op (.tmp 114)).bool? c87_89 .skip fr st k ∧
 evK gS fi87 c87_86 fr st k = evK gS fi87 c87_87 fr st (.seq c87_88 k) ∧
 (evK gS fi87 c87_93 fr st k = opsR gS fi87 [mv 106 9 3,
 op1 107 (.binOp .add 3 (.tmp 106) (.const (.int .i64 1)) 3) 3,
 asn 9 107 3] fr st k) ∧
 evK gS fi87 c87_84 fr st k = evK gS fi87 c87_86 fr st (.blk 2 (.seq c87_93 k)) ∧
 evK gS fi87 c87_78 fr st k = evK gS fi87 c87_79 fr st (.seq c87_84 k) ∧
 evK gS fi87 c87_76 fr st k = evK gS fi87 c87_77 fr st (.blk 1 k) ∧
 evK gS fi87 c87_74 fr st k = opsR gS fi87 [op1 9 (.assign (.const (.int .i64 0))) 3] fr st (.seq c87_76 k) ∧
 evK gS fi87 c87_94 fr st k = opsR gS fi87 [op1 4 (.assign (.const (.bool false))) 4] fr st (.seq .ret k) ∧
 evK gS fi87 c87_73 fr st k = evK gS fi87 c87_74 fr st (.seq c87_94 k) ∧
 evK gS fi87 c87_12 fr st k = evK gS fi87 c87_13 fr st (.seq c87_73 k) ∧
 (evK gS fi87 c87_10 fr st k = opsR gS fi87 [ld 14 88 3 88,
 op1 15 (.fieldAddr 91 (.tmp 2) 2) 0,
 ld 16 88 15 88,
 cal 17 108 [(.tmp 14),(.tmp 16)] [88,88] 125,
 mv 13 17 125,
 op1 18 (.extract (.tmp 13) 0) 3,
 op1 19 (.extract (.tmp 13) 1) 4,
 asn 5 18 3,
 asn 6 19 4] fr st (.seq c87_12 k)) ∧
 evK gS fi87 c87_2 fr st k = evK gS fi87 c87_3 fr st (.seq c87_10 k) ∧
 (evK gS fi87 c87_0 fr st k = opsR gS fi87 [op1 2 (.box 91 (.tmp 0)) 0,
 op1 3 (.box 88 (.tmp 1)) 0,
 op1 4 (.assign (.const (.bool false))) 4] fr st (.seq c87_2 k)) := ⟨evK_rs 2 rfl (by kernel_rfl),rfl,evK_rs 1 rfl (by kernel_rfl),evK_rs 6 rfl (by kernel_rfl),evK_rs 8 rfl (by kernel_rfl),evK_rs 10 rfl (by kernel_rfl),evK_rs 12 rfl (by kernel_rfl),evK_rs 14 rfl (by kernel_rfl),evK_rs 16 rfl (by kernel_rfl),evK_rs 18 rfl (by kernel_rfl),evK_rs 21 rfl (by kernel_rfl),evK_rs 20 rfl (by kernel_rfl),evK_rs 23 rfl (by kernel_rfl),rfl,evK_rs 22 rfl (by kernel_rfl),rfl,evK_rs 19 rfl (by kernel_rfl),rfl,evK_rs 17 rfl (by kernel_rfl),rfl,evK_rs 15 rfl (by kernel_rfl),rfl,evK_rs 13 rfl (by kernel_rfl),rfl,evK_rs 11 rfl (by kernel_rfl),rfl,evK_rs 9 rfl (by kernel_rfl),rfl,evK_rs 7 rfl (by kernel_rfl),rfl,evK_rs 5 rfl (by kernel_rfl),rfl,evK_rs 4 rfl (by kernel_rfl),rfl,evK_rs 25 rfl (by kernel_rfl),evK_dr 27 rfl (by kernel_rfl) (by kernel_rfl),evK_rs 28 rfl (by kernel_rfl),rfl,rfl,evK_r 26 (by kernel_rfl),rfl,rfl,rfl,evK_rs 24 rfl (by kernel_rfl),evK_rs 29 rfl (by kernel_rfl),rfl,rfl,evK_rs 3 rfl (by kernel_rfl),rfl,evK_rs 0 rfl (by kernel_rfl)⟩
theorem m87 : mini fi87.body = c87_0 := by kernel_rfl
theorem n87_77 (fr : Fr) (st : St) (k : Kt) : nextK gS fi87 (.loop c87_78 k) .normal fr st = evK gS fi87 c87_77 fr st k := rfl
set_option maxHeartbeats 4000000 in
theorem L87_77 (p : Pred) (v : Val) (h_p : p.ok) (st : St) : ∀ (n i : Nat) (j : Int)  (e0 e1 e4 e5 e6 e7 e8 e21 : E) (T : List (Nat × E)) (X : List (Nat × List V)) (ht0 : e0.Tame) (ht1 : e1.Tame) (ht4 : e4.Tame) (ht5 : e5.Tame) (ht6 : e6.Tame) (ht7 : e7.Tame) (ht8 : e8.Tame) (ht21 : e21.Tame) (hx2 : lk X 2 = some [.str p.name,.int .i64 p.test,.int .i64 p.v.kind,.int .i64 p.v.n,.float .f64 p.v.x,.str p.v.s,.bool p.v.b,.int .i64 p.w.kind,.int .i64 p.w.n,.float .f64 p.w.x,.str p.w.s,.bool p.w.b,.slice (encVals p.set)]) (hx3 : lk X 3 = some [.int .i64 v.kind,.int .i64 v.n,.float .f64 v.x,.str v.s,.bool v.b]) ,j = (i : Int) → i ≤ (p.set).length → (p.set).length - i = n →
    evK gS fi87 c87_77 { ps := [(0,e0),(1,e1),(2,.lp 2 0),(3,.lp 3 0),(4,e4),(5,e5),(6,e6),(7,e7),(8,e8),(9,.val (.int .i64 j)),(21,e21)],ts := T,lc := X } st (.blk 1 (.seq c87_94 .nil)) = some ((.ret (.bool ((p.set.drop i).any (vis v))) none),st) := by
  intro n
  have hm : fi87.marks = [] := rfl
  have hl : fi87.locals = [2,3] := rfl
  have hr : fi87.results = [.tmp 4] := rfl
  have hpo := h_p.2
  induction n with
  | zero =>
    intro i j  e0 e1 e4 e5 e6 e7 e8 e21 T X ht0 ht1 ht4 ht5 ht6 ht7 ht8 ht21 hx2 hx3  hj hi hn
    obtain rfl : i = (p.set).length := by omega
    subst hj
    refine evK_loop c87_78 _ st _ _ rfl ?_
    simp (config := { contextual := true,maxSteps := 10000000,maxDischargeDepth := 6 }) [-Int.not_le,-Int.not_lt,-Nat.not_le,-Nat.not_lt,ty3,ty4,ty9,ty88,ty89,ty91,eq88,hm,hl,hr,k107,x107,fi20_eq,p107,k108,x108,fi77_eq,p108,k109,x109,fi78_eq,p109,k110,x110,fi79_eq,p110,E87,q87_87,n87_77,ht0,ht1,ht4,ht5,ht6,ht7,ht8,ht21,hx2,hx3]
    all_goals first | done | grind | omega | (trace_state; fail)
  | succ n ih =>
    intro i j  e0 e1 e4 e5 e6 e7 e8 e21 T X ht0 ht1 ht4 ht5 ht6 ht7 ht8 ht21 hx2 hx3  hj hi hn
    subst hj
    obtain ⟨x,hx⟩ : ∃ x,(p.set)[i]? = some x := ⟨(p.set)[i]'(by omega),List.getElem?_eq_getElem (by omega)⟩
    have hd := drop_get hx
    have hlt : (i : Int) < ((p.set).length : Int) := by omega
    have hlt2 : i < (p.set).length := by omega
    have hxe : (p.set)[i]'hlt2 = x := by rw [List.getElem?_eq_getElem hlt2] at hx; exact Option.some.inj hx
    have hw : IntKind.wrap .i64 ((i : Int) + 1) = (i : Int) + 1 := wrap64 (by omega) (by omega)
    have IH := fun e0 e1 e4 e5 e6 e7 e8 e21 T X ht0 ht1 ht4 ht5 ht6 ht7 ht8 ht21 hx2 hx3 => ih (i + 1) ((i : Int) + 1) e0 e1 e4 e5 e6 e7 e8 e21 T X ht0 ht1 ht4 ht5 ht6 ht7 ht8 ht21 hx2 hx3 rfl (by omega) (by omega)
    refine evK_loop c87_78 _ st _ _ rfl ?_
    simp (config := { contextual := true,maxSteps := 10000000,maxDischargeDepth := 6 }) [-Int.not_le,-Int.not_lt,-Nat.not_le,-Nat.not_lt,ty3,ty4,ty9,ty88,ty89,ty91,eq88,hm,hl,hr,k107,x107,fi20_eq,p107,k108,x108,fi77_eq,p108,k109,x109,fi78_eq,p109,k110,x110,fi79_eq,p110,E87,q87_87,n87_77,ht0,ht1,ht4,ht5,ht6,ht7,ht8,ht21,hx2,hx3,hx,hxe,hd,hlt,hlt2,hw,IH]
    all_goals first | done | grind | omega | (trace_state; fail)
set_option maxHeartbeats 4000000 in
theorem c87 (p : Pred) (v : Val)  (h_p : Pred.ok p) (st : St) : EvF gS 87 [p.enc,v.enc] st = some (.ret (.bool (ptakes p v)) none,st) := by
  refine EvF_start fi22_eq (fun x h => by cases h) m87 ?_
  rw [st87]
  have hm : fi87.marks = [] := rfl
  have hl : fi87.locals = [2,3] := rfl
  have hr : fi87.results = [.tmp 4] := rfl
  simp (config := { contextual := true,maxSteps := 10000000,maxDischargeDepth := 6 }) [-Int.not_le,-Int.not_lt,-Nat.not_le,-Nat.not_lt,ty3,ty4,ty9,ty88,ty89,ty91,eq88,hm,hl,hr,k107,x107,fi20_eq,p107,k108,x108,fi77_eq,p108,k109,x109,fi78_eq,p109,k110,x110,fi79_eq,p110,E87,q87_87,n87_77,(fun e0 e1 e4 e5 e6 e7 e8 e21 T X ht0 ht1 ht4 ht5 ht6 ht7 ht8 ht21 hx2 hx3 => L87_77 p v h_p st _ 0 0  e0 e1 e4 e5 e6 e7 e8 e21 T X ht0 ht1 ht4 ht5 ht6 ht7 ht8 ht21 hx2 hx3 rfl (Nat.zero_le _) rfl),h_p.1,h_p.2]
  all_goals try simp (config := { contextual := true }) [-Int.not_le,-Int.not_lt,-Nat.not_le,-Nat.not_lt,ptakes]
  all_goals first | done | grind | omega | (trace_state; fail)
theorem k87 (p_name : List UInt8) (p_test : Int) (p_vk : Int) (p_vn : Int) (p_vx : Nat) (p_vs : List UInt8) (p_vb : Bool) (p_wk : Int) (p_wn : Int) (p_wx : Nat) (p_ws : List UInt8) (p_wb : Bool) (p_set : List Val) (v_k : Int) (v_n : Int) (v_x : Nat) (v_s : List UInt8) (v_b : Bool)  (h_p : Pred.ok (⟨p_name,p_test,⟨p_vk,p_vn,p_vx,p_vs,p_vb⟩,⟨p_wk,p_wn,p_wx,p_ws,p_wb⟩,p_set⟩ : Pred)) (fr : Fr) (st : St) : callStep gS (EvF gS) 87 [.agg [.str p_name,.int .i64 p_test,.int .i64 p_vk,.int .i64 p_vn,.float .f64 p_vx,.str p_vs,.bool p_vb,.int .i64 p_wk,.int .i64 p_wn,.float .f64 p_wx,.str p_ws,.bool p_wb,.slice (encVals p_set)],.agg [.int .i64 v_k,.int .i64 v_n,.float .f64 v_x,.str v_s,.bool v_b]] fr st = some (.ok (retE none (.bool (ptakes (⟨p_name,p_test,⟨p_vk,p_vn,p_vx,p_vs,p_vb⟩,⟨p_wk,p_wn,p_wx,p_ws,p_wb⟩,p_set⟩ : Pred) (⟨v_k,v_n,v_x,v_s,v_b⟩ : Val)))) fr st) :=
  call_pure rfl fi22_eq rfl (fun st => c87 (⟨p_name,p_test,⟨p_vk,p_vn,p_vx,p_vs,p_vb⟩,⟨p_wk,p_wn,p_wx,p_ws,p_wb⟩,p_set⟩ : Pred) (⟨v_k,v_n,v_x,v_s,v_b⟩ : Val) h_p st) (by simp)
theorem x87 : gS.ext 87 = none := rfl
theorem p87 : fi87.pure = true := rfl
end
end Go.Proofs.Ytdoobejjedpcgaa
namespace Go.Ab
open Go
def intVs (l : List Int) : List V := l.map (V.int .i64)
theorem intVs_length (l : List Int) : (intVs l).length = l.length := by simp [intVs]
theorem intVs_get (l : List Int) (i : Nat) : (intVs l)[i]? = (l[i]?).map (V.int .i64) := by simp [intVs]
theorem intVs_gE (l : List Int) (i : Nat) (h : i < (intVs l).length) : (intVs l)[i]'h = .int .i64 (l[i]'(by rw [intVs_length] at h; exact h)) := by simp [intVs]
theorem flats_ints (l : List Int) : flats (intVs l) = true := by
  induction l with
  | nil => rfl
  | cons x r ih => simp only [intVs,List.map_cons,flats,V.flat] at ih ⊢; exact ih
attribute [simp] intVs_length intVs_get intVs_gE flats_ints
def pickI (n m : Int) : Int := if m < 1 then 0 else if n.tmod m < 0 then n.tmod m + m else n.tmod m
theorem tmod_bound (n : Int) {m : Int} (h : 1 ≤ m) : -m < n.tmod m ∧ n.tmod m < m := by
  have b1 := Int.tmod_lt_of_pos n (by omega : 0 < m)
  refine ⟨?_,b1⟩
  rcases Int.lt_or_le n 0 with hk | hk
  · have : n.tmod m = -((-n).tmod m) := by rw [Int.neg_tmod]; omega
    have := Int.tmod_lt_of_pos (-n) (by omega : 0 < m)
    omega
  · have := Int.tmod_nonneg m hk; omega
theorem pickI_bound (n : Int) {m : Int} (h : 1 ≤ m) : 0 ≤ pickI n m ∧ pickI n m < m := by
  have := tmod_bound n h
  unfold pickI
  rw [if_neg (by omega)]
  split <;> omega
def FeedAt (st : St) (id : Nat) (l : List Int) (a : Nat) : Prop := st.objs[id]? = some [.slice (intVs l),.int .i64 a] ∧ st.wp ≤ id
def setF (st : St) (id : Nat) (l : List Int) (a : Nat) : St := { st with objs := st.objs.set id [.slice (intVs l),.int .i64 a] }
theorem FeedAt.lt {st : St} {id : Nat} {l : List Int} {a : Nat} (h : FeedAt st id l a) : id < st.objs.length := (List.getElem?_eq_some_iff.1 h.1).1
theorem setF_setF (st : St) (id : Nat) (l : List Int) (a b : Nat) : setF (setF st id l a) id l b = setF st id l b := by
  unfold setF; simp
theorem setF_same {st : St} {id : Nat} {l : List Int} {a : Nat} (h : FeedAt st id l a) : setF st id l a = st := by
  unfold setF
  obtain ⟨os,wp⟩ := st
  have h1 : os[id]? = some [.slice (intVs l),.int .i64 a] := h.1
  have h2 : id < os.length := h.lt
  congr 1
  show os.set id _ = os
  apply List.ext_getElem?
  intro j
  rw [List.getElem?_set]
  split
  · rename_i hj; subst hj; rw [h1]
  · rfl
def rawAt (l : List Int) (a : Nat) : Int := IntKind.wrap .i64 (IntKind.wrap .i64 ((l.getD (a % l.length) 0).tdiv (1 + (a / l.length : Nat))) + (a / l.length : Nat))
def nextV (l : List Int) (a : Nat) (n : Int) : Int := if l = [] then 0 else pickI (rawAt l a) n
def nextA (l : List Int) (a : Nat) : Nat := if l = [] then a else a + 1
theorem nextV_bound (l : List Int) (a : Nat) {n : Int} (h : 1 ≤ n) : 0 ≤ nextV l a n ∧ nextV l a n < n := by
  unfold nextV; split
  · omega
  · exact pickI_bound _ h
def nA (l : List Int) (a j : Nat) : Nat := if l = [] then a else a + j
theorem nA_next (l : List Int) (a j : Nat) : nextA l (nA l a j) = nA l a (j + 1) := by
  unfold nextA nA; split <;> omega
theorem nA_le (l : List Int) (a j : Nat) : nA l a j ≤ a + j := by unfold nA; split <;> omega
def FeedOk (st : St) (id : Nat) : Prop := id < st.objs.length ∧ st.wp ≤ id
theorem feed_at {st : St} {id : Nat} (h : FeedOk st id) (l : List Int) (b : Nat) : FeedAt (setF st id l b) id l b := by
  refine ⟨?_,h.2⟩
  show (st.objs.set id _)[id]? = _
  rw [List.getElem?_set_self h.1]
def fd (l : List Int) (a j : Nat) (n : Int) : Int := nextV l (nA l a j) n
theorem fd_bound (l : List Int) (a j : Nat) {n : Int} (h : 1 ≤ n) : 0 ≤ fd l a j n ∧ fd l a j n < n := nextV_bound _ _ h
def F14 : List Nat := [0,9223372036854775808,4607182418800017408,4609434218613702656,4611686018427387904,4613937818241073152,13830554455654793216,4591870180066957722,9221120237041090561,9218868437227405312,18442240474082181120,4845873199050653696,4890909195324358656,1]
def floatV (l : List Int) (a j : Nat) : Nat := F14.getD (fd l a j 14).toNat 0
def T6 : List (List UInt8) := [[],[97],[97,98],[98],[98,97],[116,119,101,108,118,101,32,98,121,116,101,115]]
def N6 : List Int := [-9223372036854775808,9223372036854775807,9007199254740992,9007199254740993,-1,4611686018427387904]
def valueV (l : List Int) (a j : Nat) : Val :=
  let z := fd l a j 8
  if z = 0 ∨ z = 1 then ⟨2,0,floatV l a (j + 1),[],false⟩
  else if z = 2 then ⟨3,0,0,T6.getD (fd l a (j + 1) 6).toNat [],false⟩
  else if z = 3 then ⟨4,0,0,[],fd l a (j + 1) 2 = 1⟩
  else if z = 4 then ⟨1,N6.getD (fd l a (j + 1) 6).toNat 0,0,[],false⟩
  else ⟨1,fd l a (j + 1) 5,0,[],false⟩
def valsV (l : List Int) (a : Nat) : Nat → Nat → List Val
  | _,0 => []
  | j,k + 1 => valueV l a j :: valsV l a (j + 2) k
def P4 : List (List UInt8) := [[],[97],[98],[97,98]]
def predV (l : List Int) (a j : Nat) (name : List UInt8) : Pred × Nat :=
  let t := 1 + fd l a j 10
  if t = 1 then (⟨name,1,vzero,vzero,[]⟩,1)
  else if t = 9 then (⟨name,9,⟨3,0,0,P4.getD (fd l a (j + 1) 4).toNat [],false⟩,vzero,[]⟩,2)
  else if t = 10 then (⟨name,10,vzero,vzero,valsV l a (j + 2) ((fd l a (j + 1) 4).toNat + 1)⟩,2 + 2 * ((fd l a (j + 1) 4).toNat + 1))
  else if t = 8 then (⟨name,8,valueV l a (j + 1),valueV l a (j + 3),[]⟩,5)
  else (⟨name,t,valueV l a (j + 1),vzero,[]⟩,3)
end Go.Ab
namespace Go.Proofs.Ytdoobejjedpcgaa
open Go Go.Ab
set_option maxRecDepth 20000
noncomputable section
variable (fr : Fr) (st : St) (k : Kt)
def fi29 : FI := { body := codeOf Try.f29,ntmps := 17,results := [.tmp 4],pers := [0,1,4,5],locals := [],pure := true,marks := [] }
theorem fi52_eq : gS.fn 29 = some fi29 := by kernel_rfl
theorem st29 (a0 a1 : V) : startFr fi29 [a0,a1] = { ps := [(0,.val a0),(1,.val a1),(4,.any),(5,.any)],ts := [],lc := [] } := rfl
def b29 : Code := mini (codeOf Try.f29)
def c29_6 : Code := .seq (codeN b29 37) .ret
def c29_5 : Code := .cond (.tmp 7) c29_6 .skip
def c29_3 : Code := .seq (codeN b29 9) c29_5
def c29_16 : Code := codeN b29 87
def c29_15 : Code := .cond (.tmp 12) c29_16 .skip
def c29_13 : Code := .seq (codeN b29 39) c29_15
def c29_18 : Code := .seq (codeN b29 47) .ret
def c29_12 : Code := .seq c29_13 c29_18
def c29_10 : Code := .seq (codeN b29 11) c29_12
def c29_2 : Code := .seq c29_3 c29_10
def c29_0 : Code := .seq (codeN b29 2) c29_2
theorem E29 : evK gS fi29 c29_6 fr st k = opsR gS fi29 [op1 4 (.assign (.const (.int .i64 0))) 3] fr st (.seq .ret k) ∧
 evK gS fi29 c29_5 fr st k = condK gS fi29 (fr.op (.tmp 7)).bool? c29_6 .skip fr st k ∧
 (evK gS fi29 c29_3 fr st k = opsR gS fi29 [mv 6 1 3,
 op1 7 (.binOp .lss 3 (.tmp 6) (.const (.int .i64 1)) 3) 4] fr st (.seq c29_5 k)) ∧
 (evK gS fi29 c29_16 fr st k = opsR gS fi29 [mv 13 5 3,
 mv 14 1 3,
 bop 15 .add 3 13 14 3 3,
 asn 5 15 3] fr st k) ∧
 evK gS fi29 c29_15 fr st k = condK gS fi29 (fr.op (.tmp 12)).bool? c29_16 .skip fr st k ∧
 (evK gS fi29 c29_13 fr st k = opsR gS fi29 [mv 11 5 3,
 op1 12 (.binOp .lss 3 (.tmp 11) (.const (.int .i64 0)) 3) 4] fr st (.seq c29_15 k)) ∧
 (evK gS fi29 c29_18 fr st k = opsR gS fi29 [mv 16 5 3,
 asn 4 16 3] fr st (.seq .ret k)) ∧
 evK gS fi29 c29_12 fr st k = evK gS fi29 c29_13 fr st (.seq c29_18 k) ∧
 (evK gS fi29 c29_10 fr st k = opsR gS fi29 [mv 8 0 3,
 mv 9 1 3,
 bop 10 .rem 3 8 9 3 3,
 asn 5 10 3] fr st (.seq c29_12 k)) ∧
 evK gS fi29 c29_2 fr st k = evK gS fi29 c29_3 fr st (.seq c29_10 k) ∧
 evK gS fi29 c29_0 fr st k = opsR gS fi29 [op1 4 (.assign (.const (.int .i64 0))) 3] fr st (.seq c29_2 k) := ⟨evK_rs 2 rfl (by kernel_rfl),rfl,evK_rs 1 rfl (by kernel_rfl),evK_r 5 (by kernel_rfl),rfl,evK_rs 4 rfl (by kernel_rfl),evK_rs 6 rfl (by kernel_rfl),rfl,evK_rs 3 rfl (by kernel_rfl),rfl,evK_rs 0 rfl (by kernel_rfl)⟩
theorem m29 : mini fi29.body = c29_0 := by kernel_rfl
set_option maxHeartbeats 4000000 in
theorem c29 (n : Int) (m : Int) (hm1 : m ≤ 4611686018427387904) (st : St) : EvF gS 29 [.int .i64 n,.int .i64 m] st = some (.ret (.int .i64 (pickI n m)) none,st) := by
  refine EvF_start fi52_eq (fun x h => by cases h) m29 ?_
  rw [st29]
  have hm : fi29.marks = [] := rfl
  have hl : fi29.locals = [] := rfl
  have hr : fi29.results = [.tmp 4] := rfl
  by_cases h1 : m < 1
  · simp [h1,pickI,-Int.not_le,-Int.not_lt,-Nat.not_le,-Nat.not_lt,ty3,ty4,hm,hl,hr,E29]
  · have h0 : ¬ m = 0 := by omega
    have hb := tmod_bound n (m := m) (by omega)
    by_cases h2 : n.tmod m < 0
    · have hw : IntKind.wrap .i64 (n.tmod m + m) = n.tmod m + m := wrap64 (by omega) (by omega)
      simp [h1,h0,h2,hw,pickI,-Int.not_le,-Int.not_lt,-Nat.not_le,-Nat.not_lt,ty3,ty4,hm,hl,hr,E29]
    · simp [h1,h0,h2,pickI,-Int.not_le,-Int.not_lt,-Nat.not_le,-Nat.not_lt,ty3,ty4,hm,hl,hr,E29]
theorem k29 (n : Int) (m : Int) (hm1 : m ≤ 4611686018427387904) (fr : Fr) (st : St) : callStep gS (EvF gS) 29 [.int .i64 n,.int .i64 m] fr st = some (.ok (retE none (.int .i64 (pickI n m))) fr st) :=
  call_pure rfl fi52_eq rfl (fun st => c29 n m hm1 st) (by simp)
theorem x29 : gS.ext 29 = none := rfl
theorem p29 : fi29.pure = true := rfl
def fi11 : FI := { body := codeOf Try.f11,ntmps := 61,results := [.tmp 4],pers := [0,1,4,5],locals := [],pure := false,marks := [] }
theorem fi16_eq : gS.fn 11 = some fi11 := by kernel_rfl
theorem st11 (a0 a1 : V) : startFr fi11 [a0,a1] = { ps := [(0,.val a0),(1,.val a1),(4,.any),(5,.any)],ts := [],lc := [] } := rfl
def b11 : Code := mini (codeOf Try.f11)
def c11_6 : Code := .seq (codeN b11 37) .ret
def c11_5 : Code := .cond (.tmp 11) c11_6 .skip
def c11_3 : Code := .seq (codeN b11 9) c11_5
def r11_11 : Array Oper := regOps (codeN (codeOf Try.f11) 11)
def c11_11 : Code := .region 3 r11_11 true
def q11_11 : List (Oper × Fl) := [(mv 12 0 23,⟨true,false,true,false,false,false,true,true,false,false,[]⟩),
 (op1 13 (.nilCheck (.tmp 12)) 0,⟨true,false,true,false,false,false,true,true,false,false,[]⟩),
 (op1 14 (.fieldAddr 25 (.tmp 13) 0) 0,⟨true,false,true,false,false,false,true,true,false,false,[]⟩),
 (ld 15 22 14 22,⟨true,false,true,false,false,false,true,true,false,false,[]⟩),
 (mv 16 0 23,⟨true,false,true,false,false,false,true,true,false,false,[]⟩),
 (op1 17 (.nilCheck (.tmp 16)) 0,⟨true,false,true,false,false,false,true,true,false,false,[]⟩),
 (op1 18 (.fieldAddr 25 (.tmp 17) 1) 0,⟨true,false,true,false,false,false,true,true,false,false,[]⟩),
 (ld 19 3 18 3,⟨true,false,true,false,false,false,true,true,false,false,[]⟩),
 (mv 20 0 23,⟨true,false,true,false,false,false,true,true,false,false,[]⟩),
 (op1 21 (.nilCheck (.tmp 20)) 0,⟨true,false,true,false,false,false,true,true,false,false,[]⟩),
 (op1 22 (.fieldAddr 25 (.tmp 21) 0) 0,⟨true,false,true,false,false,false,true,true,false,false,[]⟩),
 (ld 23 22 22 22,⟨true,false,true,false,false,false,true,true,false,false,[]⟩),
 (len1 24 23 22 3,⟨true,false,true,false,false,false,true,true,false,false,[]⟩),
 (bop 25 .rem 3 19 24 3 3,⟨true,false,true,false,false,false,true,true,false,false,[]⟩),
 (ixa 26 22 15 25 0,⟨true,false,true,false,false,false,true,true,false,false,[]⟩),
 (ld 27 3 26 3,⟨true,false,true,false,false,false,true,true,false,false,[]⟩),
 (mv 28 0 23,⟨true,false,true,false,false,false,true,true,false,false,[]⟩),
 (op1 29 (.nilCheck (.tmp 28)) 0,⟨true,false,true,false,false,false,true,true,false,false,[]⟩),
 (op1 30 (.fieldAddr 25 (.tmp 29) 1) 0,⟨true,false,true,false,false,false,true,true,false,false,[]⟩),
 (ld 31 3 30 3,⟨true,false,true,false,false,false,true,true,false,false,[]⟩),
 (mv 32 0 23,⟨true,false,true,false,false,false,true,true,false,false,[]⟩),
 (op1 33 (.nilCheck (.tmp 32)) 0,⟨true,false,true,false,false,false,true,true,false,false,[]⟩),
 (op1 34 (.fieldAddr 25 (.tmp 33) 0) 0,⟨true,false,true,false,false,false,true,true,false,false,[]⟩),
 (ld 35 22 34 22,⟨true,false,true,false,false,false,true,true,false,false,[]⟩),
 (len1 36 35 22 3,⟨true,false,true,false,false,false,true,true,false,false,[]⟩),
 (bop 37 .quo 3 31 36 3 3,⟨true,false,true,false,false,false,true,true,false,false,[]⟩),
 (op1 38 (.binOp .add 3 (.const (.int .i64 1)) (.tmp 37) 3) 3,⟨true,false,true,false,false,false,true,true,false,false,[]⟩),
 (bop 39 .quo 3 27 38 3 3,⟨true,false,true,false,false,false,true,true,false,false,[]⟩),
 (mv 40 0 23,⟨true,false,true,false,false,false,true,true,false,false,[]⟩),
 (op1 41 (.nilCheck (.tmp 40)) 0,⟨true,false,true,false,false,false,true,true,false,false,[]⟩),
 (op1 42 (.fieldAddr 25 (.tmp 41) 1) 0,⟨true,false,true,false,false,false,true,true,false,false,[]⟩),
 (ld 43 3 42 3,⟨true,false,true,false,false,false,true,true,false,false,[]⟩),
 (mv 44 0 23,⟨true,false,true,false,false,false,true,true,false,false,[]⟩),
 (op1 45 (.nilCheck (.tmp 44)) 0,⟨true,false,true,false,false,false,true,true,false,false,[]⟩),
 (op1 46 (.fieldAddr 25 (.tmp 45) 0) 0,⟨true,false,true,false,true,false,true,true,false,false,[]⟩),
 (ld 47 22 46 22,⟨true,false,true,false,true,false,true,true,false,false,[]⟩),
 (len1 48 47 22 3,⟨true,false,true,false,true,false,true,true,false,false,[]⟩),
 (bop 49 .quo 3 43 48 3 3,⟨true,false,true,false,true,false,true,true,false,false,[]⟩),
 (bop 50 .add 3 39 49 3 3,⟨true,false,true,false,true,false,true,true,false,false,[]⟩),
 (asn 5 50 3,⟨true,true,true,false,true,false,true,true,false,false,[]⟩)]
def c11_14 : Code := .seq (codeN b11 47) .ret
def c11_12 : Code := .seq (codeN b11 23) c11_14
def c11_10 : Code := .seq c11_11 c11_12
def c11_2 : Code := .seq c11_3 c11_10
def c11_0 : Code := .seq (codeN b11 2) c11_2
theorem E11 : evK gS fi11 c11_6 fr st k = opsR gS fi11 [op1 4 (.assign (.const (.int .i64 0))) 3] fr st (.seq .ret k) ∧
 evK gS fi11 c11_5 fr st k = condK gS fi11 (fr.op (.tmp 11)).bool? c11_6 .skip fr st k ∧
 (evK gS fi11 c11_3 fr st k = opsR gS fi11 [mv 6 0 23,
 op1 7 (.nilCheck (.tmp 6)) 0,
 op1 8 (.fieldAddr 25 (.tmp 7) 0) 0,
 ld 9 22 8 22,
 len1 10 9 22 3,
 op1 11 (.binOp .eql 3 (.tmp 10) (.const (.int .i64 0)) 3) 4] fr st (.seq c11_5 k)) ∧
 evK gS fi11 c11_11 fr st k = drwR gS fi11 r11_11 q11_11 fr st k ∧
 (evK gS fi11 c11_14 fr st k = opsR gS fi11 [mv 58 5 3,
 mv 59 1 3,
 cal 60 29 [(.tmp 58),(.tmp 59)] [3,3] 3,
 asn 4 60 3] fr st (.seq .ret k)) ∧
 (evK gS fi11 c11_12 fr st k = opsR gS fi11 [mv 51 0 23,
 op1 52 (.nilCheck (.tmp 51)) 0,
 op1 53 (.fieldAddr 25 (.tmp 52) 1) 0,
 ld 54 3 53 3,
 op1 55 (.binOp .add 3 (.tmp 54) (.const (.int .i64 1)) 3) 3,
 op1 56 (.nilCheck (.tmp 51)) 0,
 op1 57 (.fieldAddr 25 (.tmp 56) 1) 0,
 sto 3 57 55] fr st (.seq c11_14 k)) ∧
 evK gS fi11 c11_10 fr st k = evK gS fi11 c11_11 fr st (.seq c11_12 k) ∧
 evK gS fi11 c11_2 fr st k = evK gS fi11 c11_3 fr st (.seq c11_10 k) ∧
 evK gS fi11 c11_0 fr st k = opsR gS fi11 [op1 4 (.assign (.const (.int .i64 0))) 3] fr st (.seq c11_2 k) := ⟨evK_rs 2 rfl (by kernel_rfl),rfl,evK_rs 1 rfl (by kernel_rfl),evK_dr 3 rfl (by kernel_rfl) (by kernel_rfl),evK_rs 5 rfl (by kernel_rfl),evK_rs 4 rfl (by kernel_rfl),rfl,rfl,evK_rs 0 rfl (by kernel_rfl)⟩
theorem m11 : mini fi11.body = c11_0 := by kernel_rfl
set_option maxHeartbeats 8000000 in
theorem c11 (l : List Int) (a id : Nat) (n : Int) (st : St) (h : FeedAt st id l a) (ha : a < 1099511627776) (hn : n ≤ 4611686018427387904) :
    EvF gS 11 [.ptr id 0,.int .i64 n] st = some (.ret (.int .i64 (nextV l a n)) none,setF st id l (nextA l a)) := by
  refine EvF_start fi16_eq (fun x h => by cases h) m11 ?_
  rw [st11]
  have hm : fi11.marks = [] := rfl
  have hl : fi11.locals = [] := rfl
  have hr : fi11.results = [.tmp 4] := rfl
  have ho := h.1
  have hwp : ¬ id < st.wp := by have := h.2; omega
  have hwp2 : st.wp ≤ id := h.2
  have hid := h.lt
  by_cases hne : l = []
  · subst hne
    have hs : setF st id [] a = st := setF_same h
    simp [nextV,nextA,hs,ho,-Int.not_le,-Int.not_lt,-Nat.not_le,-Nat.not_lt,ty3,ty4,ty22,ty23,ty25,hm,hl,hr,k29,x29,fi52_eq,p29,E11,q11_11]
  · have hlen : 0 < l.length := by cases l with | nil => exact (hne rfl).elim | cons _ _ => simp
    have e0 : ¬ (l.length : Int) = 0 := by omega
    have e1 : ((a : Nat) : Int).tmod (l.length : Int) = ((a % l.length : Nat) : Int) := by rw [Int.tmod_eq_emod_of_nonneg (by omega)]; omega
    have e2 : ((a : Nat) : Int).tdiv (l.length : Int) = ((a / l.length : Nat) : Int) := by rw [Int.tdiv_eq_ediv_of_nonneg (by omega)]; omega
    have e3 := Nat.mod_lt a hlen
    have e4 : a / l.length ≤ a := Nat.div_le_self _ _
    have hx : l[a % l.length]? = some (l.getD (a % l.length) 0) := by
      rw [List.getElem?_eq_getElem e3,List.getD_eq_getElem?_getD,List.getElem?_eq_getElem e3]; rfl
    have ea : IntKind.wrap .i64 ((a : Int) + 1) = (a : Int) + 1 := wrap64 (by omega) (by omega)
    have hxe : l[a % l.length]'e3 = l.getD (a % l.length) 0 := by rw [List.getElem?_eq_getElem e3] at hx; exact Option.some.inj hx
    simp only [nextV,nextA,hne,if_false,rawAt]
    generalize l.getD (a % l.length) 0 = x at *
    generalize a % l.length = rr at *
    generalize a / l.length = qq at *
    have e5 : IntKind.wrap .i64 (qq : Int) = (qq : Int) := wrap64 (by omega) (by omega)
    have e6 : IntKind.wrap .i64 (1 + (qq : Int)) = 1 + (qq : Int) := wrap64 (by omega) (by omega)
    have e7 : ¬ (1 + (qq : Int)) = 0 := by omega
    simp [-Int.natCast_emod,-Int.natCast_ediv,setF,ho,hne,e0,e1,e2,e3,e5,e6,e7,hx,hxe,ea,hn,hwp,hwp2,-Int.not_le,-Int.not_lt,-Nat.not_le,-Nat.not_lt,ty3,ty4,ty22,ty23,ty25,hm,hl,hr,k29,x29,fi52_eq,p29,E11,q11_11]
theorem k11 (l : List Int) (a j id : Nat) (n : Int) (fr : Fr) (st : St) (h : FeedOk st id) (ha : a < 549755813888) (hj : j < 549755813888) (hn : n ≤ 4611686018427387904) :
    callStep gS (EvF gS) 11 [.ptr id 0,.int .i64 n] fr (setF st id l (nA l a j)) = some (.ok (.val (.int .i64 (fd l a j n))) (fr.map E.noMem) (setF st id l (nA l a (j + 1)))) := by
  have hc := c11 l (nA l a j) id n (setF st id l (nA l a j)) (feed_at h l _) (by have := nA_le l a j; omega) hn
  rw [setF_setF,nA_next] at hc
  unfold callStep
  simp only [show gS.ext 11 = none from rfl,fi16_eq,show fi11.pure = false from rfl,Bool.false_eq_true,if_false,hc,retE]
  rfl
end
end Go.Proofs.Ytdoobejjedpcgaa
namespace Go.Proofs.Ytdoobejjedpcgaa
open Go Go.Ab
set_option maxRecDepth 20000
noncomputable section
variable (fr : Fr) (st : St) (k : Kt)
theorem kCopy (fr : Fr) (st : St) : callStep gS (EvF gS) 104 [.float .f64 0,.float .f64 13830554455654793216] fr st = some (.ok (.val (.float .f64 9223372036854775808)) fr st) := by
  have hc : EvF gS 104 [.float .f64 0,.float .f64 13830554455654793216] ⟨[],0⟩ = some (.ret (.float .f64 9223372036854775808) none,⟨[],0⟩) := Evn.lim ⟨12,fun n hn => by
    obtain ⟨m,rfl⟩ : ∃ m,n = m + 12 := ⟨n - 12,by omega⟩
    kernel_rfl⟩
  obtain ⟨fi,hf,hp⟩ : ∃ fi,gS.fn 104 = some fi ∧ fi.pure = true := by
    refine ⟨(gS.fn 104).getD ⟨.skip,0,[],[],[],false,[]⟩,by kernel_rfl,by kernel_rfl⟩
  unfold callStep
  simp only [show gS.ext 104 = none from rfl,hf,hp,if_true,show flats [.float .f64 0,.float .f64 13830554455654793216] = true from by simp,hc,show V.flat (.float .f64 9223372036854775808) = true from rfl]
  rfl
theorem kNaN (fr : Fr) (st : St) : callStep gS (EvF gS) 105 [] fr st = some (.ok (.val (.float .f64 9221120237041090561)) fr st) := by
  have hc : EvF gS 105 [] ⟨[],0⟩ = some (.ret (.float .f64 9221120237041090561) none,⟨[],0⟩) := Evn.lim ⟨12,fun n hn => by
    obtain ⟨m,rfl⟩ : ∃ m,n = m + 12 := ⟨n - 12,by omega⟩
    kernel_rfl⟩
  obtain ⟨fi,hf,hp⟩ : ∃ fi,gS.fn 105 = some fi ∧ fi.pure = true := by
    refine ⟨(gS.fn 105).getD ⟨.skip,0,[],[],[],false,[]⟩,by kernel_rfl,by kernel_rfl⟩
  unfold callStep
  simp only [show gS.ext 105 = none from rfl,hf,hp,if_true,show flats [] = true from by simp,hc,show V.flat (.float .f64 9221120237041090561) = true from rfl]
  rfl
theorem kInf (fr : Fr) (st : St) : callStep gS (EvF gS) 106 [.int .i64 1] fr st = some (.ok (.val (.float .f64 9218868437227405312)) fr st) := by
  have hc : EvF gS 106 [.int .i64 1] ⟨[],0⟩ = some (.ret (.float .f64 9218868437227405312) none,⟨[],0⟩) := Evn.lim ⟨12,fun n hn => by
    obtain ⟨m,rfl⟩ : ∃ m,n = m + 12 := ⟨n - 12,by omega⟩
    kernel_rfl⟩
  obtain ⟨fi,hf,hp⟩ : ∃ fi,gS.fn 106 = some fi ∧ fi.pure = true := by
    refine ⟨(gS.fn 106).getD ⟨.skip,0,[],[],[],false,[]⟩,by kernel_rfl,by kernel_rfl⟩
  unfold callStep
  simp only [show gS.ext 106 = none from rfl,hf,hp,if_true,show flats [.int .i64 1] = true from by simp,hc,show V.flat (.float .f64 9218868437227405312) = true from rfl]
  rfl
theorem kInf2 (fr : Fr) (st : St) : callStep gS (EvF gS) 106 [.int .i64 (-1)] fr st = some (.ok (.val (.float .f64 18442240474082181120)) fr st) := by
  have hc : EvF gS 106 [.int .i64 (-1)] ⟨[],0⟩ = some (.ret (.float .f64 18442240474082181120) none,⟨[],0⟩) := Evn.lim ⟨12,fun n hn => by
    obtain ⟨m,rfl⟩ : ∃ m,n = m + 12 := ⟨n - 12,by omega⟩
    kernel_rfl⟩
  obtain ⟨fi,hf,hp⟩ : ∃ fi,gS.fn 106 = some fi ∧ fi.pure = true := by
    refine ⟨(gS.fn 106).getD ⟨.skip,0,[],[],[],false,[]⟩,by kernel_rfl,by kernel_rfl⟩
  unfold callStep
  simp only [show gS.ext 106 = none from rfl,hf,hp,if_true,show flats [.int .i64 (-1)] = true from by simp,hc,show V.flat (.float .f64 18442240474082181120) = true from rfl]
  rfl
def fi85 : FI := { body := codeOf Try.f85,ntmps := 13,results := [.tmp 2],pers := [0,2,3],locals := [3],pure := false,marks := [] }
theorem fi66_eq : gS.fn 85 = some fi85 := by kernel_rfl
theorem st85 (a0 : V) : startFr fi85 [a0] = { ps := [(0,.val a0),(2,.any),(3,.any)],ts := [],lc := [] } := rfl
def b85 : Code := mini (codeOf Try.f85)
def c85_4 : Code := .seq (codeN b85 11) .ret
theorem e85_4 : evK gS fi85 c85_4 fr st k = opsR gS fi85 [mv 9 0 23,
 cal 10 11 [(.tmp 9),(.const (.int .i64 14))] [23,3] 3,
 ixa 11 132 3 10 0,
 ld 12 86 11 86,
 asn 2 12 86] fr st (.seq .ret k) := evK_rs 2 rfl (by kernel_rfl)
def c85_2 : Code := .seq (codeN b85 5) c85_4
theorem e85_2 : evK gS fi85 c85_2 fr st k = opsR gS fi85 [cal 4 104 [(.const (.float .f64 0)),(.const (.float .f64 13830554455654793216))] [86,86] 86,
 cal 5 105 [] [] 86,
 cal 6 106 [(.const (.int .i64 1))] [3] 86,
 cal 7 106 [(.const (.int .i64 (-1)))] [3] 86,
 op1 8 (.build 132 #[(0,(.const (.float .f64 0))),(1,(.tmp 4)),(2,(.const (.float .f64 4607182418800017408))),(3,(.const (.float .f64 4609434218613702656))),(4,(.const (.float .f64 4611686018427387904))),(5,(.const (.float .f64 4613937818241073152))),(6,(.const (.float .f64 13830554455654793216))),(7,(.const (.float .f64 4591870180066957722))),(8,(.tmp 5)),(9,(.tmp 6)),(10,(.tmp 7)),(11,(.const (.float .f64 4845873199050653696))),(12,(.const (.float .f64 4890909195324358656))),(13,(.const (.float .f64 1)))]) 132,
 op1 3 (.alloc 132) 0,
 sto 132 3 8] fr st (.seq c85_4 k) := evK_rs 1 rfl (by kernel_rfl)
def c85_0 : Code := .seq (codeN b85 2) c85_2
theorem e85_0 : evK gS fi85 c85_0 fr st k = opsR gS fi85 [op1 2 (.assign (.const (.float .f64 0))) 86] fr st (.seq c85_2 k) := evK_rs 0 rfl (by kernel_rfl)
theorem m85 : mini fi85.body = c85_0 := by kernel_rfl
set_option maxHeartbeats 8000000 in
theorem c85 (l : List Int) (a j id : Nat) (st : St) (h : FeedOk st id) (ha : a < 549755813888) (hj : j < 549755813888) :
    EvF gS 85 [.ptr id 0] (setF st id l (nA l a j)) = some (.ret (.float .f64 (floatV l a j)) none,setF st id l (nA l a (j + 1))) := by
  refine EvF_start fi66_eq (fun x h => by cases h) m85 ?_
  rw [st85]
  have hm : fi85.marks = [] := rfl
  have hl : fi85.locals = [3] := rfl
  have hr : fi85.results = [.tmp 2] := rfl
  have hb := fd_bound l a j (n := 14) (by omega)
  unfold floatV
  have hk := fun fr => k11 l a j id 14 fr st h ha hj (by omega)
  generalize fd l a j 14 = z at *
  have hz : z = 0 ∨ z = 1 ∨ z = 2 ∨ z = 3 ∨ z = 4 ∨ z = 5 ∨ z = 6 ∨ z = 7 ∨ z = 8 ∨ z = 9 ∨ z = 10 ∨ z = 11 ∨ z = 12 ∨ z = 13 := by omega
  rcases hz with rfl | rfl | rfl | rfl | rfl | rfl | rfl | rfl | rfl | rfl | rfl | rfl | rfl | rfl <;>
    simp [F14,hk,-Int.not_le,-Int.not_lt,-Nat.not_le,-Nat.not_lt,ty3,ty23,ty86,ty132,hm,hl,hr,kCopy,kNaN,kInf,kInf2,e85_4,e85_2,e85_0]
theorem k85 (l : List Int) (a j id : Nat) (fr : Fr) (st : St) (h : FeedOk st id) (ha : a < 549755813888) (hj : j < 549755813000) :
    callStep gS (EvF gS) 85 [.ptr id 0] fr (setF st id l (nA l a j)) = some (.ok (.val (.float .f64 (floatV l a j))) (fr.map E.noMem) (setF st id l (nA l a (j + 1)))) := by
  unfold callStep
  simp only [show gS.ext 85 = none from rfl,fi66_eq,show fi85.pure = false from rfl,Bool.false_eq_true,if_false,c85 l a j id st h ha (by omega),retE]
  all_goals rfl
def fi55 : FI := { body := codeOf Try.f55,ntmps := 38,results := [.cell 2 88],pers := [0,2,3,4,6,7],locals := [2,3,4],pure := false,marks := [] }
theorem fi17_eq : gS.fn 55 = some fi55 := by kernel_rfl
theorem st55 (a0 : V) : startFr fi55 [a0] = { ps := [(0,.val a0),(2,.any),(3,.any),(4,.any),(6,.any),(7,.any)],ts := [],lc := [] } := rfl
def b55 : Code := mini (codeOf Try.f55)
def c55_11 : Code := codeN b55 229
def c55_9 : Code := .cond (.tmp 7) .skip c55_11
def c55_7 : Code := .seq (codeN b55 69) c55_9
def c55_13 : Code := .seq (codeN b55 149) .ret
def c55_21 : Code := .seq (codeN b55 1397) .ret
def c55_19 : Code := .seq (codeN b55 629) c55_21
def c55_27 : Code := .seq (codeN b55 2549) .ret
def c55_35 : Code := .seq (codeN b55 22517) .ret
def c55_33 : Code := .seq (codeN b55 10229) c55_35
def c55_32 : Code := .cond (.tmp 27) c55_33 .skip
def c55_30 : Code := .seq (codeN b55 3061) c55_32
def c55_26 : Code := .cond (.tmp 21) c55_27 c55_30
def c55_24 : Code := .seq (codeN b55 757) c55_26
def c55_18 : Code := .cond (.tmp 13) c55_19 c55_24
def c55_16 : Code := .seq (codeN b55 181) c55_18
def c55_12 : Code := .cond (.tmp 7) c55_13 c55_16
def c55_6 : Code := .seq c55_7 c55_12
def c55_5 : Code := .block 0 c55_6
def c55_3 : Code := .seq (codeN b55 9) c55_5
def c55_39 : Code := .seq (codeN b55 11) .ret
def c55_2 : Code := .seq c55_3 c55_39
def c55_0 : Code := .seq (codeN b55 2) c55_2
theorem E55 : (evK gS fi55 c55_11 fr st k = opsR gS fi55 [op1 9 (.binOp .eql 3 (.tmp 6) (.const (.int .i64 1)) 3) 4,
 asn 7 9 4] fr st k) ∧
 evK gS fi55 c55_9 fr st k = condK gS fi55 (fr.op (.tmp 7)).bool? .skip c55_11 fr st k ∧
 (evK gS fi55 c55_7 fr st k = opsR gS fi55 [op1 8 (.binOp .eql 3 (.tmp 6) (.const (.int .i64 0)) 3) 4,
 asn 7 8 4] fr st (.seq c55_9 k)) ∧
 (evK gS fi55 c55_13 fr st k = opsR gS fi55 [mv 10 0 23,
 cal 11 85 [(.tmp 10)] [23] 86,
 op1 12 (.build 88 #[(0,(.const (.int .i64 2))),(2,(.tmp 11))]) 88,
 sto 88 2 12] fr st (.seq .ret k)) ∧
 (evK gS fi55 c55_21 fr st k = opsR gS fi55 [mv 16 0 23,
 cal 17 11 [(.tmp 16),(.const (.int .i64 6))] [23,3] 3,
 ixa 18 117 3 17 0,
 ld 19 9 18 9,
 op1 20 (.build 88 #[(0,(.const (.int .i64 3))),(3,(.tmp 19))]) 88,
 sto 88 2 20] fr st (.seq .ret k)) ∧
 (evK gS fi55 c55_19 fr st k = opsR gS fi55 [op1 15 (.build 117 #[(0,(.const (.string { data := #[] }))),(1,(.const (.string { data := #[97] }))),(2,(.const (.string { data := #[97,98] }))),(3,(.const (.string { data := #[98] }))),(4,(.const (.string { data := #[98,97] }))),(5,(.const (.string { data := #[116,119,101,108,118,101,32,98,121,116,101,115] })))]) 117,
 op1 3 (.alloc 117) 0,
 sto 117 3 15] fr st (.seq c55_21 k)) ∧
 (evK gS fi55 c55_27 fr st k = opsR gS fi55 [mv 23 0 23,
 cal 24 11 [(.tmp 23),(.const (.int .i64 2))] [23,3] 3,
 op1 25 (.binOp .eql 3 (.tmp 24) (.const (.int .i64 1)) 3) 4,
 op1 26 (.build 88 #[(0,(.const (.int .i64 4))),(4,(.tmp 25))]) 88,
 sto 88 2 26] fr st (.seq .ret k)) ∧
 (evK gS fi55 c55_35 fr st k = opsR gS fi55 [mv 30 0 23,
 cal 31 11 [(.tmp 30),(.const (.int .i64 6))] [23,3] 3,
 ixa 32 118 4 31 0,
 ld 33 2 32 2,
 op1 34 (.build 88 #[(0,(.const (.int .i64 1))),(1,(.tmp 33))]) 88,
 sto 88 2 34] fr st (.seq .ret k)) ∧
 (evK gS fi55 c55_33 fr st k = opsR gS fi55 [op1 29 (.build 118 #[(0,(.const (.int .i64 (-9223372036854775808)))),(1,(.const (.int .i64 9223372036854775807))),(2,(.const (.int .i64 9007199254740992))),(3,(.const (.int .i64 9007199254740993))),(4,(.const (.int .i64 (-1)))),(5,(.const (.int .i64 4611686018427387904)))]) 118,
 op1 4 (.alloc 118) 0,
 sto 118 4 29] fr st (.seq c55_35 k)) ∧
 evK gS fi55 c55_32 fr st k = condK gS fi55 (fr.op (.tmp 27)).bool? c55_33 .skip fr st k ∧
 (evK gS fi55 c55_30 fr st k = opsR gS fi55 [op1 28 (.binOp .eql 3 (.tmp 6) (.const (.int .i64 4)) 3) 4,
 asn 27 28 4] fr st (.seq c55_32 k)) ∧
 evK gS fi55 c55_26 fr st k = condK gS fi55 (fr.op (.tmp 21)).bool? c55_27 c55_30 fr st k ∧
 (evK gS fi55 c55_24 fr st k = opsR gS fi55 [op1 22 (.binOp .eql 3 (.tmp 6) (.const (.int .i64 3)) 3) 4,
 asn 21 22 4] fr st (.seq c55_26 k)) ∧
 evK gS fi55 c55_18 fr st k = condK gS fi55 (fr.op (.tmp 13)).bool? c55_19 c55_24 fr st k ∧
 (evK gS fi55 c55_16 fr st k = opsR gS fi55 [op1 14 (.binOp .eql 3 (.tmp 6) (.const (.int .i64 2)) 3) 4,
 asn 13 14 4] fr st (.seq c55_18 k)) ∧
 evK gS fi55 c55_12 fr st k = condK gS fi55 (fr.op (.tmp 7)).bool? c55_13 c55_16 fr st k ∧
 evK gS fi55 c55_6 fr st k = evK gS fi55 c55_7 fr st (.seq c55_12 k) ∧
 evK gS fi55 c55_5 fr st k = evK gS fi55 c55_6 fr st (.blk 0 k) ∧
 (evK gS fi55 c55_3 fr st k = opsR gS fi55 [mv 5 0 23,
 cal 6 11 [(.tmp 5),(.const (.int .i64 8))] [23,3] 3] fr st (.seq c55_5 k)) ∧
 (evK gS fi55 c55_39 fr st k = opsR gS fi55 [mv 35 0 23,
 cal 36 11 [(.tmp 35),(.const (.int .i64 5))] [23,3] 3,
 op1 37 (.build 88 #[(0,(.const (.int .i64 1))),(1,(.tmp 36))]) 88,
 sto 88 2 37] fr st (.seq .ret k)) ∧
 evK gS fi55 c55_2 fr st k = evK gS fi55 c55_3 fr st (.seq c55_39 k) ∧
 evK gS fi55 c55_0 fr st k = opsR gS fi55 [op1 2 (.alloc 88) 0] fr st (.seq c55_2 k) := ⟨evK_r 3 (by kernel_rfl),rfl,evK_rs 2 rfl (by kernel_rfl),evK_rs 4 rfl (by kernel_rfl),evK_rs 7 rfl (by kernel_rfl),evK_rs 6 rfl (by kernel_rfl),evK_rs 9 rfl (by kernel_rfl),evK_rs 12 rfl (by kernel_rfl),evK_rs 11 rfl (by kernel_rfl),rfl,evK_rs 10 rfl (by kernel_rfl),rfl,evK_rs 8 rfl (by kernel_rfl),rfl,evK_rs 5 rfl (by kernel_rfl),rfl,rfl,rfl,evK_rs 1 rfl (by kernel_rfl),evK_rs 13 rfl (by kernel_rfl),rfl,evK_rs 0 rfl (by kernel_rfl)⟩
theorem m55 : mini fi55.body = c55_0 := by kernel_rfl
set_option maxHeartbeats 8000000 in
theorem c55 (l : List Int) (a j id : Nat) (st : St) (h : FeedOk st id) (ha : a < 549755813888) (hj : j < 549755812000) :
    EvF gS 55 [.ptr id 0] (setF st id l (nA l a j)) = some (.ret (valueV l a j).enc none,setF st id l (nA l a (j + 2))) := by
  refine EvF_start fi17_eq (fun x h => by cases h) m55 ?_
  rw [st55]
  have hm : fi55.marks = [] := rfl
  have hl : fi55.locals = [2,3,4] := rfl
  have hr : fi55.results = [.cell 2 88] := rfl
  have hb := fd_bound l a j (n := 8) (by omega)
  have hb6 := fd_bound l a (j + 1) (n := 6) (by omega)
  unfold valueV
  have hk := fun fr => k11 l a j id 8 fr st h ha (by omega) (by omega)
  have hk6 := fun fr => k11 l a (j + 1) id 6 fr st h ha (by omega) (by omega)
  have hk2 := fun fr => k11 l a (j + 1) id 2 fr st h ha (by omega) (by omega)
  have hk5 := fun fr => k11 l a (j + 1) id 5 fr st h ha (by omega) (by omega)
  have hf1 := fun fr => k85 l a (j + 1) id fr st h ha (by omega)
  generalize fd l a j 8 = z at *
  generalize fd l a (j + 1) 6 = y at *
  have hz : z = 0 ∨ z = 1 ∨ z = 2 ∨ z = 3 ∨ z = 4 ∨ z = 5 ∨ z = 6 ∨ z = 7 := by omega
  have hy : y = 0 ∨ y = 1 ∨ y = 2 ∨ y = 3 ∨ y = 4 ∨ y = 5 := by omega
  rcases hz with rfl | rfl | rfl | rfl | rfl | rfl | rfl | rfl
  case inr.inr.inl => rcases hy with rfl | rfl | rfl | rfl | rfl | rfl <;> simp [T6,hk,hk6,hk2,hk5,hf1,-Int.not_le,-Int.not_lt,-Nat.not_le,-Nat.not_lt,ty2,ty3,ty4,ty9,ty23,ty86,ty88,ty117,ty118,eq88,hm,hl,hr,E55]
  case inr.inr.inr.inr.inl => rcases hy with rfl | rfl | rfl | rfl | rfl | rfl <;> simp [N6,hk,hk6,hk2,hk5,hf1,-Int.not_le,-Int.not_lt,-Nat.not_le,-Nat.not_lt,ty2,ty3,ty4,ty9,ty23,ty86,ty88,ty117,ty118,eq88,hm,hl,hr,E55]
  all_goals simp [hk,hk6,hk2,hk5,hf1,-Int.not_le,-Int.not_lt,-Nat.not_le,-Nat.not_lt,ty2,ty3,ty4,ty9,ty23,ty86,ty88,ty117,ty118,eq88,hm,hl,hr,E55]
end
end Go.Proofs.Ytdoobejjedpcgaa
namespace Go.Ab
open Go
def dd (st : St) (m : Nat) : St := { st with objs := st.objs ++ List.replicate m [] }
def nw (st : St) (m : Nat) (cs : List V) : St := { st with objs := st.objs ++ (List.replicate m [] ++ [cs]) }
theorem dd_zero (st : St) : dd st 0 = st := by unfold dd; simp
theorem dd_len (st : St) (m : Nat) : (dd st m).objs.length = st.objs.length + m := by simp [dd]
theorem gr_len (st : St) (m : Nat) (cs : List V) : (nw st m cs).objs.length = st.objs.length + m + 1 := by simp [nw]; omega
theorem setF_len (st : St) (id : Nat) (l : List Int) (a : Nat) : (setF st id l a).objs.length = st.objs.length := by simp [setF]
theorem setF_wp (st : St) (id : Nat) (l : List Int) (a : Nat) : (setF st id l a).wp = st.wp := rfl
theorem dd_wp (st : St) (m : Nat) : (dd st m).wp = st.wp := rfl
theorem gr_wp (st : St) (m : Nat) (cs : List V) : (nw st m cs).wp = st.wp := rfl
theorem FeedOk.dd {st : St} {id : Nat} (h : FeedOk st id) (m : Nat) : FeedOk (dd st m) id := ⟨by rw [dd_len]; have := h.1; omega,h.2⟩
theorem FeedOk.nw {st : St} {id : Nat} (h : FeedOk st id) (m : Nat) (cs : List V) : FeedOk (nw st m cs) id := ⟨by rw [gr_len]; have := h.1; omega,h.2⟩
theorem FeedOk.setF {st : St} {id id' : Nat} (h : FeedOk st id) (l : List Int) (a : Nat) : FeedOk (setF st id' l a) id := ⟨by rw [setF_len]; exact h.1,h.2⟩
theorem dd_dd (st : St) (m n : Nat) : dd (dd st m) n = dd st (m + n) := by unfold dd; simp [List.append_assoc,List.replicate_append_replicate]
theorem setF_dd {st : St} {id : Nat} (h : FeedOk st id) (m : Nat) (l : List Int) (a : Nat) : dd (setF st id l a) m = setF (dd st m) id l a := by
  unfold dd setF; simp only [St.mk.injEq,and_true]; rw [List.set_append_left _ _ h.1]
theorem setF_gr {st : St} {id : Nat} (h : FeedOk st id) (m : Nat) (cs : List V) (l : List Int) (a : Nat) : nw (setF st id l a) m cs = setF (nw st m cs) id l a := by
  unfold nw setF; simp only [St.mk.injEq,and_true]; rw [List.set_append_left _ _ h.1]
theorem gr_obj (st : St) (m : Nat) (cs : List V) : (nw st m cs).objs[st.objs.length + m]? = some cs := by
  simp [nw]
theorem obj_gr {st : St} {id : Nat} (h : FeedOk st id) (m : Nat) (cs : List V) (l : List Int) (a : Nat) : St.obj (setF (nw st m cs) id l a) (st.objs.length + m) = some cs := by
  unfold St.obj setF
  show ((nw st m cs).objs.set id _)[_]? = _
  rw [List.getElem?_set_ne (by have := h.1; omega),gr_obj]
theorem set_gr {st : St} {id : Nat} (h : FeedOk st id) (m : Nat) (cs : List V) (l : List Int) (a : Nat) : St.set (setF (nw st m cs) id l a) (st.objs.length + m) [] = some (setF (dd st (m + 1)) id l a) := by
  have h1 := h.1
  have h2 := h.2
  unfold St.set
  rw [if_pos (by rw [setF_wp,gr_wp]; omega)]
  rw [← setF_gr h,← setF_dd h]
  unfold nw dd
  simp only [Option.some.injEq,St.mk.injEq,and_true]
  rw [List.set_append_right _ _ (by rw [setF_len]; omega),setF_len,show st.objs.length + m - st.objs.length = m by omega,List.set_append_right _ _ (by simp),List.replicate_succ',List.length_replicate,Nat.sub_self]
  rfl
theorem set_gr' {st : St} {id : Nat} (h : FeedOk st id) (m : Nat) (cs cs' : List V) (l : List Int) (a : Nat) : St.set (setF (nw st m cs) id l a) (st.objs.length + m) cs' = some (setF (nw st m cs') id l a) := by
  have h1 := h.1
  have h2 := h.2
  unfold St.set
  rw [if_pos (by rw [setF_wp,gr_wp]; omega)]
  rw [← setF_gr h,← setF_gr h]
  unfold nw
  simp only [Option.some.injEq,St.mk.injEq,and_true]
  rw [List.set_append_right _ _ (by rw [setF_len]; omega),setF_len,show st.objs.length + m - st.objs.length = m by omega,List.set_append_right _ _ (by simp),List.length_replicate,Nat.sub_self]
  rfl
theorem newRef_dd {st : St} {id : Nat} (h : FeedOk st id) (fr : Fr) (m k len : Nat) (cs : List V) (l : List Int) (a : Nat) :
    newRef fr (setF (dd st m) id l a) k len cs = .ok (.val (.sref false k (st.objs.length + m) 0 len)) fr (setF (nw st m cs) id l a) := by
  unfold newRef
  rw [setF_len,dd_len,← setF_dd h,← setF_gr h]
  unfold nw dd
  simp
theorem newRef_setF {st : St} {id : Nat} (h : FeedOk st id) (fr : Fr) (k len : Nat) (cs : List V) (l : List Int) (a : Nat) :
    newRef fr (setF st id l a) k len cs = .ok (.val (.sref false k st.objs.length 0 len)) fr (setF (nw st 0 cs) id l a) := by
  have := newRef_dd h fr 0 k len cs l a
  rw [dd_zero] at this
  exact this
mutual
theorem frz_flat : ∀ (n : Nat) (st : St) (v : V),v.flat = true → frz n st v = some (v,st)
  | 0,_,_,_ => by unfold frz; rfl
  | n + 1,st,v,h => by
    unfold frz
    split
    · simp [V.flat] at h
    · rw [frzL_flat n st _ (by simpa [V.flat] using h)]
    · rw [frzL_flat n st _ (by simpa [V.flat] using h)]
    · rfl
    · rw [if_pos (by simpa [V.flat] using h)]
    · rfl
theorem frzL_flat : ∀ (n : Nat) (st : St) (l : List V),flats l = true → frzL (frz n) st l = some (l,st)
  | _,_,[],_ => rfl
  | n,st,v :: r,h => by
    simp only [flats,Bool.and_eq_true] at h
    unfold frzL
    rw [frz_flat n st v h.1]
    simp only
    rw [frzL_flat n st r h.2]
end
theorem frzL_cons {f : St → V → Option (V × St)} {st st' : St} {v v' : V} {r : List V} (h : f st v = some (v',st')) : frzL f st (v :: r) = match frzL f st' r with
      | some (r',st'') => some (v' :: r',st'')
      | none => none := by
  simp only [frzL,h]
  cases frzL f st' r with
  | none => rfl
  | some x => rfl
theorem frzL_append {f : St → V → Option (V × St)} {st st' st'' : St} : ∀ {xs xs' ys ys' : List V},frzL f st xs = some (xs',st') → frzL f st' ys = some (ys',st'') → frzL f st (xs ++ ys) = some (xs' ++ ys',st'')
  | [],_,_,_,h,k => by unfold frzL at h; cases h; exact k
  | v :: r,_,ys,ys',h,k => by
    unfold frzL at h
    split at h
    · rename_i v' st1 h1
      split at h
      · rename_i r' st2 h2
        cases h
        rw [List.cons_append,frzL_cons h1,frzL_append h2 k]; rfl
      · cases h
    · cases h
theorem chunk_enc {α : Type} (cells : α → List V) (k : Nat) (hk : 0 < k) (hl : ∀ x,(cells x).length = k) : ∀ (vs : List α),chunk true k vs.length (vs.flatMap cells) = vs.map fun x => V.agg (cells x)
  | [] => rfl
  | x :: r => by
    rw [List.length_cons,chunk,List.flatMap_cons,List.take_left' (hl x),List.drop_left' (hl x),chunk_enc cells k hk hl r]; rfl
theorem vals_cells_len (vs : List Val) : (vs.flatMap Val.cells).length = vs.length * 5 := by
  induction vs with
  | nil => rfl
  | cons x r ih => simp [List.flatMap_cons,ih,Val.cells]; omega
theorem vals_cells_one (vs : List Val) : (vs.flatMap Val.cells).all V.one = true := by
  induction vs with
  | nil => rfl
  | cons x r ih => simp [List.flatMap_cons,ih,Val.cells,V.one]
theorem vals_cells_flat (vs : List Val) : flats (vs.flatMap Val.cells) = true := by
  induction vs with
  | nil => rfl
  | cons x r ih =>
    have : ∀ (a b : List V),flats a = true → flats b = true → flats (a ++ b) = true := by
      intro a
      induction a with
      | nil => intro b _ h; exact h
      | cons v a iha => intro b h1 h2; simp only [flats,List.cons_append,Bool.and_eq_true] at h1 ⊢; exact ⟨h1.1,iha b h1.2 h2⟩
    rw [List.flatMap_cons]
    exact this _ _ (by simp [Val.cells,flats,V.flat]) ih
theorem vals_cells_strip (vs : List Val) : (vs.flatMap Val.cells).map V.strip1 = vs.flatMap Val.cells := by
  induction vs with
  | nil => rfl
  | cons x r ih => simp [List.flatMap_cons,ih,Val.cells,V.strip1]
theorem chunk_vals (vs : List Val) : chunk true 5 vs.length (vs.flatMap Val.cells) = encVals vs := chunk_enc Val.cells 5 (by omega) (fun _ => rfl) vs
theorem frz_vals {st : St} {id : Nat} (h : FeedOk st id) (n m : Nat) (vs : List Val) (hv : vs ≠ []) (l : List Int) (a : Nat) :
    frz (n + 1) (setF (nw st m (vs.flatMap Val.cells)) id l a) (.sref false 5 (st.objs.length + m) 0 vs.length) = some (.slice (encVals vs),setF (dd st (m + 1)) id l a) := by
  have hl : ¬ vs.length = 0 := by simpa using hv
  unfold frz
  simp only [hl,if_false,obj_gr h,set_gr h,vals_cells_len,List.drop_zero,Nat.zero_add,Nat.le_refl,and_true,show (0 < 5) = True by simp,if_true]
  rw [List.take_of_length_le (by rw [vals_cells_len]; omega),vals_cells_strip,frzL_flat _ _ _ (vals_cells_flat vs)]
  simp only [vals_cells_len,vals_cells_one,and_self,if_true]
  rw [show Nat.blt 1 5 = true from rfl,chunk_vals]
theorem frz_predcells {st st' : St} {n : Nat} {a0 a1 a2 a3 a4 a5 a6 a7 a8 a9 a10 a11 s s' : V} (hf : flats [a0,a1,a2,a3,a4,a5,a6,a7,a8,a9,a10,a11] = true) (hs : frz n st s = some (s',st')) :
    frz (n + 1) st (.agg [a0,a1,a2,a3,a4,a5,a6,a7,a8,a9,a10,a11,s]) = some (.agg [a0,a1,a2,a3,a4,a5,a6,a7,a8,a9,a10,a11,s'],st') := by
  unfold frz
  have h1 := frzL_flat n st _ hf
  have h2 : frzL (frz n) st [s] = some ([s'],st') := by rw [frzL_cons hs]; rfl
  have := frzL_append h1 h2
  simp only [List.cons_append,List.nil_append] at this
  simp only [this]
theorem frz_nil (n : Nat) (st : St) : frz (n + 1) st (.sref true 0 0 0 0) = some (.slice [],st) := by unfold frz; rfl
theorem w64_1 : IntKind.wrap .i64 1 = 1 := by kernel_rfl
theorem w64_2 : IntKind.wrap .i64 2 = 2 := by kernel_rfl
theorem w64_3 : IntKind.wrap .i64 3 = 3 := by kernel_rfl
theorem w64_4 : IntKind.wrap .i64 4 = 4 := by kernel_rfl
theorem w64_5 : IntKind.wrap .i64 5 = 5 := by kernel_rfl
theorem w64_6 : IntKind.wrap .i64 6 = 6 := by kernel_rfl
theorem w64_7 : IntKind.wrap .i64 7 = 7 := by kernel_rfl
theorem w64_8 : IntKind.wrap .i64 8 = 8 := by kernel_rfl
theorem w64_9 : IntKind.wrap .i64 9 = 9 := by kernel_rfl
theorem w64_10 : IntKind.wrap .i64 10 = 10 := by kernel_rfl
end Go.Ab
namespace Go.Ab
open Go
def FVR : List (Val × Option (Int × Int)) := [
  (vzero,none),
  (⟨2,0,0,[],false⟩,some (1,0)),(⟨2,0,9223372036854775808,[],false⟩,some (1,0)),(⟨2,0,4607182418800017408,[],false⟩,some (1,3)),
  (⟨2,0,4609434218613702656,[],false⟩,some (1,4)),(⟨2,0,4611686018427387904,[],false⟩,some (1,5)),(⟨2,0,4613937818241073152,[],false⟩,some (1,6)),
  (⟨2,0,13830554455654793216,[],false⟩,some (1,-1)),(⟨2,0,4591870180066957722,[],false⟩,some (1,2)),(⟨2,0,9221120237041090561,[],false⟩,none),
  (⟨2,0,9218868437227405312,[],false⟩,some (1,20)),(⟨2,0,18442240474082181120,[],false⟩,some (1,-20)),(⟨2,0,4845873199050653696,[],false⟩,some (1,8)),
  (⟨2,0,4890909195324358656,[],false⟩,some (1,12)),(⟨2,0,1,[],false⟩,some (1,1)),
  (⟨3,0,0,[],false⟩,some (3,0)),(⟨3,0,0,[97],false⟩,some (3,1)),(⟨3,0,0,[97,98],false⟩,some (3,2)),(⟨3,0,0,[98],false⟩,some (3,3)),(⟨3,0,0,[98,97],false⟩,some (3,4)),
  (⟨3,0,0,[116,119,101,108,118,101,32,98,121,116,101,115],false⟩,some (3,5)),
  (⟨4,0,0,[],false⟩,some (4,0)),(⟨4,0,0,[],true⟩,some (4,1)),
  (⟨1,-9223372036854775808,0,[],false⟩,some (1,-10)),(⟨1,9223372036854775807,0,[],false⟩,some (1,11)),(⟨1,9007199254740992,0,[],false⟩,some (1,8)),(⟨1,9007199254740993,0,[],false⟩,some (1,9)),
  (⟨1,-1,0,[],false⟩,some (1,-1)),(⟨1,4611686018427387904,0,[],false⟩,some (1,10)),(⟨1,0,0,[],false⟩,some (1,0)),(⟨1,1,0,[],false⟩,some (1,3)),(⟨1,2,0,[],false⟩,some (1,5)),(⟨1,3,0,[],false⟩,some (1,6)),(⟨1,4,0,[],false⟩,some (1,7))]
def FV (v : Val) (r : Option (Int × Int)) : Prop := (v,r) ∈ FVR
end Go.Ab
namespace Go.Ab
open Go
structure PFV (p : Pred) : Prop where
  v : ∃ r,FV p.v r
  w : ∃ r,FV p.w r
  set : ∀ x ∈ p.set,∃ r,FV x r
end Go.Ab
namespace Go.Ab
open Go
def VR (v : Val) : Prop := vright v = true ∧ ∃ r,FV v r
def allVR : List Val := (FVR.drop 1).map (·.1)
theorem all_right : allVR.all vright = true := by kernel_rfl
theorem vr_mem {v : Val} (h : v ∈ allVR) : VR v := by
  refine ⟨List.all_eq_true.1 all_right v h,?_⟩
  unfold allVR at h
  obtain ⟨x,hx,rfl⟩ := List.mem_map.1 h
  exact ⟨x.2,List.mem_of_mem_drop hx⟩
def floatsR : List Val := F14.map fun x => ⟨2,0,x,[],false⟩
def textsR : List Val := T6.map fun s => ⟨3,0,0,s,false⟩
def intsR : List Val := N6.map fun n => ⟨1,n,0,[],false⟩
theorem floats_in : (floatsR.all fun v => allVR.contains v) = true := by kernel_rfl
theorem texts_in : (textsR.all fun v => allVR.contains v) = true := by kernel_rfl
theorem ints_in : (intsR.all fun v => allVR.contains v) = true := by kernel_rfl
theorem smalls_in : ((List.range 5).all fun n => allVR.contains (⟨1,(n : Int),0,[],false⟩ : Val)) = true := by kernel_rfl
theorem bools_in : ([true,false].all fun b => allVR.contains (⟨4,0,0,[],b⟩ : Val)) = true := by kernel_rfl
theorem of_contains {l : List Val} {f : Val} (h : (l.all fun v => allVR.contains v) = true) (hf : f ∈ l) : VR f := by
  have := List.all_eq_true.1 h f hf
  exact vr_mem (by simpa using this)
theorem vr_float (l : List Int) (a j : Nat) : VR ⟨2,0,floatV l a j,[],false⟩ := by
  have hb := fd_bound l a j (n := 14) (by omega)
  refine of_contains floats_in ?_
  unfold floatsR floatV
  refine List.mem_map.2 ⟨_,?_,rfl⟩
  have hlt : (fd l a j 14).toNat < F14.length := by show _ < 14; omega
  rw [List.getD_eq_getElem?_getD,List.getElem?_eq_getElem hlt]
  exact List.getElem_mem hlt
theorem vr_text {n : Nat} (h : n < 6) : VR ⟨3,0,0,T6.getD n [],false⟩ := by
  refine of_contains texts_in ?_
  unfold textsR
  refine List.mem_map.2 ⟨_,?_,rfl⟩
  have hlt : n < T6.length := h
  rw [List.getD_eq_getElem?_getD,List.getElem?_eq_getElem hlt]
  exact List.getElem_mem hlt
theorem vr_int {n : Nat} (h : n < 6) : VR ⟨1,N6.getD n 0,0,[],false⟩ := by
  refine of_contains ints_in ?_
  unfold intsR
  refine List.mem_map.2 ⟨_,?_,rfl⟩
  have hlt : n < N6.length := h
  rw [List.getD_eq_getElem?_getD,List.getElem?_eq_getElem hlt]
  exact List.getElem_mem hlt
theorem vr_small {n : Int} (h0 : 0 ≤ n) (h : n < 5) : VR ⟨1,n,0,[],false⟩ := by
  have := List.all_eq_true.1 smalls_in n.toNat (List.mem_range.2 (by omega))
  rw [show ((n.toNat : Nat) : Int) = n by omega] at this
  exact vr_mem (by simpa using this)
theorem vr_bool (b : Bool) : VR ⟨4,0,0,[],b⟩ := by
  have := List.all_eq_true.1 bools_in b (by cases b <;> simp)
  exact vr_mem (by simpa using this)
theorem vr_value (l : List Int) (a j : Nat) : VR (valueV l a j) := by
  unfold valueV
  have h8 := fd_bound l a j (n := 8) (by omega)
  have h6 := fd_bound l a (j + 1) (n := 6) (by omega)
  have h5 := fd_bound l a (j + 1) (n := 5) (by omega)
  simp only
  repeat' split
  · exact vr_float _ _ _
  · exact vr_text (by omega)
  · exact vr_bool _
  · exact vr_int (by omega)
  · exact vr_small (by omega) (by omega)
theorem vr_vals (l : List Int) (a : Nat) : ∀ (k j : Nat),∀ x ∈ valsV l a j k,VR x
  | 0,j,x,h => by simp [valsV] at h
  | k + 1,j,x,h => by
    rcases List.mem_cons.1 h with rfl | h
    · exact vr_value _ _ _
    · exact vr_vals l a k _ x h
theorem vals_length (l : List Int) (a : Nat) : ∀ (k j : Nat),(valsV l a j k).length = k
  | 0,j => rfl
  | k + 1,j => by simp [valsV,vals_length l a k]
theorem P4_in : (P4.all fun s => T6.contains s) = true := by kernel_rfl
theorem vr_P4 {n : Nat} (h : n < 4) : VR ⟨3,0,0,P4.getD n [],false⟩ := by
  have hlt : n < P4.length := h
  have h1 : P4.getD n [] ∈ P4 := by rw [List.getD_eq_getElem?_getD,List.getElem?_eq_getElem hlt]; exact List.getElem_mem hlt
  have h2 := List.all_eq_true.1 P4_in _ h1
  refine of_contains texts_in ?_
  unfold textsR
  exact List.mem_map.2 ⟨_,by simpa using h2,rfl⟩
theorem fv_zero : ∃ r,FV vzero r := ⟨none,by unfold FV FVR; simp⟩
theorem pred_fv (l : List Int) (a j : Nat) (nm : List UInt8) : PFV (predV l a j nm).1 := by
  unfold predV
  have h4 := fd_bound l a (j + 1) (n := 4) (by omega)
  simp only
  repeat' split
  · exact ⟨fv_zero,fv_zero,by simp⟩
  · exact ⟨(vr_P4 (by omega)).2,fv_zero,by simp⟩
  · exact ⟨fv_zero,fv_zero,fun x hx => (vr_vals _ _ _ _ x hx).2⟩
  · exact ⟨(vr_value _ _ _).2,(vr_value _ _ _).2,by simp⟩
  · exact ⟨(vr_value _ _ _).2,fv_zero,by simp⟩
theorem same_zero : vsame vzero vzero = true := by kernel_rfl
theorem pred_right (l : List Int) (a j : Nat) {nm : List UInt8} (hn : isWord nm = true) : pright (predV l a j nm).1 = true := by
  have h10 := fd_bound l a j (n := 10) (by omega)
  have h4 := fd_bound l a (j + 1) (n := 4) (by omega)
  unfold predV
  simp only
  split
  · simp [pright,hn,same_zero]
  · split
    · rename_i h
      have hv := (vr_P4 (n := (fd l a (j + 1) 4).toNat) (by omega)).1
      generalize P4.getD (fd l a (j + 1) 4).toNat [] = s at hv
      simp [pright,hn,same_zero,hv]
    · split
      · have hv := fun x hx => (vr_vals l a ((fd l a (j + 1) 4).toNat + 1) (j + 2) x hx).1
        have hl := vals_length l a ((fd l a (j + 1) 4).toNat + 1) (j + 2)
        generalize valsV l a (j + 2) ((fd l a (j + 1) 4).toNat + 1) = vs at hv hl
        have hc : vs.all vright = true := List.all_eq_true.2 hv
        have h5 : 1 ≤ vs.length ∧ vs.length ≤ 4 := by omega
        unfold pright
        rw [if_pos hn]
        simp [same_zero,hc,h5,hv]
      · split
        · simp [pright,hn,same_zero,(vr_value l a (j + 1)).1,(vr_value l a (j + 3)).1]
        · have e1 : 2 ≤ 1 + fd l a j 10 ∧ 1 + fd l a j 10 ≤ 7 := by omega
          have e2 : ¬ 1 + fd l a j 10 = 1 := by omega
          simp only [pright,hn,if_true,e2,if_false,e1,and_self,same_zero,(vr_value l a (j + 1)).1,List.length_nil,decide_true,Bool.and_self]
theorem pred_asks (l : List Int) (a j : Nat) (nm : List UInt8) : (predV l a j nm).2 ≤ 10 := by
  have h4 := fd_bound l a (j + 1) (n := 4) (by omega)
  unfold predV
  simp only
  repeat' split
  all_goals (simp only; omega)
theorem ok_of_right {p : Pred} (h : pright p = true) : p.ok := by
  unfold pright at h
  split at h
  · rename_i hw
    unfold isWord at hw
    simp only [Bool.and_eq_true,decide_eq_true_eq] at hw
    refine ⟨by omega,?_⟩
    repeat' split at h
    all_goals first
      | (simp only [Bool.and_eq_true,decide_eq_true_eq] at h; omega)
      | cases h
  · cases h
end Go.Ab
namespace Go.Proofs.Ytdoobejjedpcgaa
open Go Go.Ab
set_option maxRecDepth 20000
noncomputable section
variable (fr : Fr) (st : St) (k : Kt)
theorem k55 (l : List Int) (a j id : Nat)  (fr : Fr) (st : St) (h : FeedOk st id) (ha : a < 549755813888) (hj : j < 549755812000) :
    callStep gS (EvF gS) 55 [.ptr id 0] fr (setF st id l (nA l a j)) = some (.ok (.val ((valueV l a j).enc)) (fr.map E.noMem) (setF st id l (nA l a (j + 2)))) := by
  unfold callStep
  simp only [show gS.ext 55 = none from rfl,fi17_eq,show fi55.pure = false from rfl,Bool.false_eq_true,if_false,c55 l a j id  st h ha (by omega),retE]
  all_goals rfl
def fi71 : FI := { body := codeOf Try.f71,ntmps := 52,results := [.cell 4 91],pers := [0,1,4,5,6,13],locals := [4,5],pure := false,marks := [39,2000011,1000000] }
theorem fi29_eq : gS.fn 71 = some fi71 := by kernel_rfl
theorem st71 (a0 a1 : V) : startFr fi71 [a0,a1] = { ps := [(0,.val a0),(1,.val a1),(4,.any),(5,.any),(6,.any),(13,.any)],ts := [],lc := [] } := rfl
def b71 : Code := mini (codeOf Try.f71)
def c71_11 : Code := .seq (codeN b71 299) .ret
def c71_19 : Code := .seq (codeN b71 2795) .ret
def c71_17 : Code := .seq (codeN b71 1259) c71_19
def c71_33 : Code := .cond (.tmp 31) .skip (.exit 1)
def c71_31 : Code := .seq (codeN b71 136171) c71_33
def r71_38 : Array Oper := regOps (codeN (codeOf Try.f71) 300011)
def c71_38 : Code := .region 12 r71_38 true
def q71_38 : List (Oper × Fl) := [(op1 34 (.fieldAddr 91 (.tmp 5) 4) 0,⟨true,false,false,false,false,false,true,false,false,true,[]⟩),
 (ld 35 89 34 89,⟨true,false,false,false,false,false,true,false,false,true,[]⟩),
 (mv 36 0 23,⟨true,false,true,false,true,false,true,true,false,false,[]⟩),
 (cal 37 55 [(.tmp 36)] [23] 88,⟨false,true,true,false,true,true,true,true,false,false,[]⟩),
 (op1 38 (.buildSlice 89 1 #[(0,(.tmp 37))]) 89,⟨true,false,true,false,true,false,true,true,false,false,[]⟩),
 (op1 39 (.call { callee := (.builtin .append),args := #[(.tmp 35),(.tmp 38)],argTypes := #[89,89] }) 89,⟨false,true,true,false,true,true,true,true,false,false,[]⟩),
 (op1 40 (.fieldAddr 91 (.tmp 5) 4) 0,⟨true,true,true,false,true,false,true,true,false,false,[]⟩),
 (sto 89 40 39,⟨false,true,true,false,true,true,true,true,false,false,[]⟩)]
def c71_39 : Code := codeN b71 234475
def c71_36 : Code := .seq (.block 2 c71_38) c71_39
def c71_30 : Code := .seq c71_31 c71_36
def c71_29 : Code := .loop c71_30
def c71_28 : Code := .block 1 c71_29
def c71_26 : Code := .seq (codeN b71 9195) c71_28
def c71_40 : Code := .seq (codeN b71 11243) .ret
theorem e71_40 : evK gS fi71 c71_40 fr st k = opsR gS fi71 [ld 41 91 5 91,
 sto 91 4 41] fr st (.seq .ret k) := evK_rs 13 rfl (by kernel_rfl)
def c71_25 : Code := .seq c71_26 c71_40
def c71_24 : Code := .cond (.tmp 26) c71_25 .skip
def c71_22 : Code := .seq (codeN b71 1515) c71_24
def c71_16 : Code := .cond (.tmp 17) c71_17 c71_22
def c71_14 : Code := .seq (codeN b71 363) c71_16
def c71_10 : Code := .cond (.tmp 14) c71_11 c71_14
def c71_8 : Code := .seq (codeN b71 75) c71_10
def c71_7 : Code := .block 0 c71_8
def c71_5 : Code := .seq (codeN b71 19) c71_7
def c71_50 : Code := codeN b71 175
def c71_49 : Code := .cond (.tmp 47) c71_50 .skip
def c71_47 : Code := .seq (codeN b71 79) c71_49
def c71_52 : Code := .seq (codeN b71 95) .ret
def c71_46 : Code := .seq c71_47 c71_52
def c71_44 : Code := .seq (codeN b71 23) c71_46
def c71_4 : Code := .seq c71_5 c71_44
def c71_2 : Code := .seq (codeN b71 5) c71_4
def c71_0 : Code := .seq (codeN b71 2) c71_2
theorem E71 : (evK gS fi71 c71_11 fr st k = opsR gS fi71 [ld 16 91 5 91,
 sto 91 4 16] fr st (.seq .ret k)) ∧
 (evK gS fi71 c71_19 fr st k = opsR gS fi71 [ld 25 91 5 91,
 sto 91 4 25] fr st (.seq .ret k)) ∧
 (evK gS fi71 c71_17 fr st k = opsR gS fi71 [op1 19 (.build 122 #[(0,(.const (.string { data := #[] }))),(1,(.const (.string { data := #[97] }))),(2,(.const (.string { data := #[98] }))),(3,(.const (.string { data := #[97,98] })))]) 122,
 mv 20 0 23,
 cal 21 11 [(.tmp 20),(.const (.int .i64 4))] [23,3] 3,
 op1 22 (.index 122 (.tmp 19) (.tmp 21)) 9,
 op1 23 (.build 88 #[(0,(.const (.int .i64 3))),(3,(.tmp 22))]) 88,
 op1 24 (.fieldAddr 91 (.tmp 5) 2) 0,
 sto 88 24 23] fr st (.seq c71_19 k)) ∧
 evK gS fi71 c71_33 fr st k = condK gS fi71 (fr.op (.tmp 31)).bool? .skip (.exit 1) fr st k ∧
 (evK gS fi71 c71_31 fr st k = opsR gS fi71 [mv 30 6 3,
 op1 31 (.binOp .geq 3 (.tmp 30) (.const (.int .i64 0)) 3) 4] fr st (.seq c71_33 k)) ∧
 evK gS fi71 c71_38 fr st k = drwR gS fi71 r71_38 q71_38 fr st k ∧
 (evK gS fi71 c71_39 fr st k = opsR gS fi71 [mv 32 6 3,
 op1 33 (.binOp .sub 3 (.tmp 32) (.const (.int .i64 1)) 3) 3,
 asn 6 33 3] fr st k) ∧
 evK gS fi71 c71_36 fr st k = evK gS fi71 c71_38 fr st (.blk 2 (.seq c71_39 k)) ∧
 evK gS fi71 c71_30 fr st k = evK gS fi71 c71_31 fr st (.seq c71_36 k) ∧
 evK gS fi71 c71_28 fr st k = evK gS fi71 c71_29 fr st (.blk 1 k) ∧
 (evK gS fi71 c71_26 fr st k = opsR gS fi71 [mv 28 0 23,
 cal 29 11 [(.tmp 28),(.const (.int .i64 4))] [23,3] 3,
 asn 6 29 3] fr st (.seq c71_28 k)) ∧
 evK gS fi71 c71_25 fr st k = evK gS fi71 c71_26 fr st (.seq c71_40 k) ∧
 evK gS fi71 c71_24 fr st k = condK gS fi71 (fr.op (.tmp 26)).bool? c71_25 .skip fr st k ∧
 (evK gS fi71 c71_22 fr st k = opsR gS fi71 [op1 27 (.binOp .eql 3 (.tmp 13) (.const (.int .i64 10)) 3) 4,
 asn 26 27 4] fr st (.seq c71_24 k)) ∧
 evK gS fi71 c71_16 fr st k = condK gS fi71 (fr.op (.tmp 17)).bool? c71_17 c71_22 fr st k ∧
 (evK gS fi71 c71_14 fr st k = opsR gS fi71 [op1 18 (.binOp .eql 3 (.tmp 13) (.const (.int .i64 9)) 3) 4,
 asn 17 18 4] fr st (.seq c71_16 k)) ∧
 evK gS fi71 c71_10 fr st k = condK gS fi71 (fr.op (.tmp 14)).bool? c71_11 c71_14 fr st k ∧
 (evK gS fi71 c71_8 fr st k = opsR gS fi71 [op1 15 (.binOp .eql 3 (.tmp 13) (.const (.int .i64 1)) 3) 4,
 asn 14 15 4] fr st (.seq c71_10 k)) ∧
 evK gS fi71 c71_7 fr st k = evK gS fi71 c71_8 fr st (.blk 0 k) ∧
 (evK gS fi71 c71_5 fr st k = opsR gS fi71 [op1 12 (.fieldAddr 91 (.tmp 5) 1) 0,
 ld 13 3 12 3] fr st (.seq c71_7 k)) ∧
 (evK gS fi71 c71_50 fr st k = opsR gS fi71 [mv 48 0 23,
 cal 49 55 [(.tmp 48)] [23] 88,
 op1 50 (.fieldAddr 91 (.tmp 5) 3) 0,
 sto 88 50 49] fr st k) ∧
 evK gS fi71 c71_49 fr st k = condK gS fi71 (fr.op (.tmp 47)).bool? c71_50 .skip fr st k ∧
 (evK gS fi71 c71_47 fr st k = opsR gS fi71 [op1 45 (.fieldAddr 91 (.tmp 5) 1) 0,
 ld 46 3 45 3,
 op1 47 (.binOp .eql 3 (.tmp 46) (.const (.int .i64 8)) 3) 4] fr st (.seq c71_49 k)) ∧
 (evK gS fi71 c71_52 fr st k = opsR gS fi71 [ld 51 91 5 91,
 sto 91 4 51] fr st (.seq .ret k)) ∧
 evK gS fi71 c71_46 fr st k = evK gS fi71 c71_47 fr st (.seq c71_52 k) ∧
 (evK gS fi71 c71_44 fr st k = opsR gS fi71 [mv 42 0 23,
 cal 43 55 [(.tmp 42)] [23] 88,
 op1 44 (.fieldAddr 91 (.tmp 5) 2) 0,
 sto 88 44 43] fr st (.seq c71_46 k)) ∧
 evK gS fi71 c71_4 fr st k = evK gS fi71 c71_5 fr st (.seq c71_44 k) ∧
 (evK gS fi71 c71_2 fr st k = opsR gS fi71 [mv 7 1 9,
 mv 8 0 23,
 cal 9 11 [(.tmp 8),(.const (.int .i64 10))] [23,3] 3,
 op1 10 (.binOp .add 3 (.const (.int .i64 1)) (.tmp 9) 3) 3,
 op1 11 (.build 91 #[(0,(.tmp 7)),(1,(.tmp 10))]) 91,
 op1 5 (.alloc 91) 0,
 sto 91 5 11] fr st (.seq c71_4 k)) ∧
 evK gS fi71 c71_0 fr st k = opsR gS fi71 [op1 4 (.alloc 91) 0] fr st (.seq c71_2 k) := ⟨evK_rs 4 rfl (by kernel_rfl),evK_rs 7 rfl (by kernel_rfl),evK_rs 6 rfl (by kernel_rfl),rfl,evK_rs 10 rfl (by kernel_rfl),evK_dr 12 rfl (by kernel_rfl) (by kernel_rfl),evK_r 11 (by kernel_rfl),rfl,rfl,rfl,evK_rs 9 rfl (by kernel_rfl),rfl,rfl,evK_rs 8 rfl (by kernel_rfl),rfl,evK_rs 5 rfl (by kernel_rfl),rfl,evK_rs 3 rfl (by kernel_rfl),rfl,evK_rs 2 rfl (by kernel_rfl),evK_r 16 (by kernel_rfl),rfl,evK_rs 15 rfl (by kernel_rfl),evK_rs 17 rfl (by kernel_rfl),rfl,evK_rs 14 rfl (by kernel_rfl),rfl,evK_rs 1 rfl (by kernel_rfl),evK_rs 0 rfl (by kernel_rfl)⟩
theorem m71 : mini fi71.body = c71_0 := by kernel_rfl
theorem n71_29 (fr : Fr) (st : St) (k : Kt) : nextK gS fi71 (.loop c71_30 k) .normal fr st = evK gS fi71 c71_29 fr st k := rfl
set_option maxHeartbeats 4000000 in
theorem T71_40 (nm : List UInt8) (l : List Int) (a id m : Nat) (vs : List Val) (hv : vs ≠ []) (st : St) (h : FeedOk st id) (e0 e1 e6 e13 : E) (h0 : e0.Tame) (h1 : e1.Tame) (h6 : e6.Tame) (h13 : e13.Tame) (T : List (Nat × E)) (X : List (Nat × List V)) (hx4 : lk X 4 = some [.str [],.int .i64 0,.int .i64 0,.int .i64 0,.float .f64 0,.str [],.bool false,.int .i64 0,.int .i64 0,.float .f64 0,.str [],.bool false,.osl 0 []]) (hx5 : lk X 5 = some [.str nm,.int .i64 10,.int .i64 0,.int .i64 0,.float .f64 0,.str [],.bool false,.int .i64 0,.int .i64 0,.float .f64 0,.str [],.bool false,.sref false 5 (st.objs.length + m) 0 vs.length]) :
    evK gS fi71 c71_40 { ps := [(0,e0),(1,e1),(4,.lp 4 0),(5,.lp 5 0),(6,e6),(13,e13)],ts := T,lc := X } (setF (nw st m (vs.flatMap Val.cells)) id l a) (.blk 0 (.seq c71_44 .nil)) = some (.ret ((⟨nm,10,vzero,vzero,vs⟩ : Pred).enc) none,setF (dd st (m + 1)) id l a) := by
  have hm : fi71.marks = [39,2000011,1000000] := rfl
  have hl : fi71.locals = [4,5] := rfl
  have hr : fi71.results = [.cell 4 91] := rfl
  have hz := fun a0 a1 a2 a3 a4 a5 a6 a7 a8 a9 a10 a11 hf => frz_predcells (a0 := a0) (a1 := a1) (a2 := a2) (a3 := a3) (a4 := a4) (a5 := a5) (a6 := a6) (a7 := a7) (a8 := a8) (a9 := a9) (a10 := a10) (a11 := a11) hf (frz_vals h 4 m vs hv l a)
  simp [lk_lset_self _ _ _ _ hx4,hx4,hx5,h0,h1,h6,h13,hz,vzero,-Int.not_le,-Int.not_lt,-Nat.not_le,-Nat.not_lt,ty3,ty4,ty9,ty23,ty88,ty89,ty91,ty122,eq88,hm,hl,hr,fi16_eq,fi17_eq,E71,q71_38,e71_40,n71_29]
set_option maxHeartbeats 8000000 in
theorem L71 (nm : List UInt8) (l : List Int) (a id : Nat) (ha : a < 549755813888) (st : St) (h : FeedOk st id) (e1 e13 : E) (h1 : e1.Tame) (h13 : e13.Tame) : ∀ (r j m : Nat) (vs : List Val) (T : List (Nat × E)) (X : List (Nat × List V)),j + 2 * r < 549755812000 → vs.length = m + 1 → vs.length + r < 1000 → lk X 4 = some [.str [],.int .i64 0,.int .i64 0,.int .i64 0,.float .f64 0,.str [],.bool false,.int .i64 0,.int .i64 0,.float .f64 0,.str [],.bool false,.osl 0 []] → lk X 5 = some [.str nm,.int .i64 10,.int .i64 0,.int .i64 0,.float .f64 0,.str [],.bool false,.int .i64 0,.int .i64 0,.float .f64 0,.str [],.bool false,.sref false 5 (st.objs.length + m) 0 (m + 1)] →
    evK gS fi71 c71_29 { ps := [(0,.val (.ptr id 0)),(1,e1),(4,.lp 4 0),(5,.lp 5 0),(6,.val (.int .i64 ((r : Int) - 1))),(13,e13)],ts := T,lc := X } (setF (nw st m (vs.flatMap Val.cells)) id l (nA l a j)) (.blk 1 (.seq c71_40 (.blk 0 (.seq c71_44 .nil)))) = some (.ret ((⟨nm,10,vzero,vzero,vs ++ valsV l a j r⟩ : Pred).enc) none,setF (dd st (m + 1 + r)) id l (nA l a (j + 2 * r))) := by
  intro r
  have hm : fi71.marks = [39,2000011,1000000] := rfl
  have hl : fi71.locals = [4,5] := rfl
  have hr : fi71.results = [.cell 4 91] := rfl
  induction r with
  | zero =>
    intro j m vs T X hj hlen hlt hx4 hx5
    refine evK_loop c71_30 _ _ _ _ rfl ?_
    have ht := fun T => T71_40 nm l (nA l a j) id m vs (by intro e; rw [e] at hlen; simp at hlen) st h (.val (.ptr id 0)) e1 (.val (.int .i64 (-1))) e13 rfl h1 rfl h13 T X hx4 (by rw [hx5,hlen])
    simp [h1,h13,ht,valsV,-Int.not_le,-Int.not_lt,-Nat.not_le,-Nat.not_lt,ty3,ty4,ty9,ty23,ty88,ty89,ty91,ty122,eq88,hm,hl,hr,fi16_eq,fi17_eq,E71,q71_38,n71_29]
  | succ r ih =>
    intro j m vs T X hj hlen hlt hx4 hx5
    refine evK_loop c71_30 _ _ _ _ rfl ?_
    have hv := fun fr => k55 l a j id fr (nw st m (vs.flatMap Val.cells)) (h.nw m _) ha (by omega)
    have e1' : ((r + 1 : Nat) : Int) - 1 = (r : Int) := by omega
    have e2 : (0 : Int) ≤ (r : Int) := by omega
    have e3 : IntKind.wrap .i64 ((r : Int) - 1) = (r : Int) - 1 := wrap64 (by omega) (by omega)
    have e4 := vals_cells_len vs
    have e5 := vals_cells_strip vs
    have e6 := vals_cells_one vs
    have e7 : ∀ v : Val,vs.flatMap Val.cells ++ [.int .i64 v.kind,.int .i64 v.n,.float .f64 v.x,.str v.s,.bool v.b] = (vs ++ [v]).flatMap Val.cells := by intro v; simp [Val.cells]
    have IH := fun T X h4 h5 => ih (j + 2) (m + 1) (vs ++ [valueV l a j]) T X (by omega) (by simp [hlen]) (by simp; omega) h4 h5
    have r1 := obj_gr h m (vs.flatMap Val.cells) l (nA l a (j + 2))
    have r2 := set_gr h m (vs.flatMap Val.cells) l (nA l a (j + 2))
    have r3 := fun fr k len cs => newRef_dd h fr (m + 1) k len cs l (nA l a (j + 2))
    have e8 : (m + 1 + 1) * 48 ≤ 140737488355328 := by omega
    have e9 : (m + 1 + 1) ≤ 140737488355328 := by omega
    rw [hlen] at e4
    rw [e1']
    rw [show valsV l a j (r + 1) = valueV l a j :: valsV l a (j + 2) r from rfl,show m + 1 + (r + 1) = m + 1 + 1 + r by omega,show j + 2 * (r + 1) = j + 2 + 2 * r by omega,List.append_cons vs]
    simp [-List.append_assoc,-List.flatMap_append,-St.obj,-St.set,h1,h13,hx4,hx5,hv,e2,e3,e4,e5,e6,e7,e8,e9,r1,r2,r3,markStep,markAppend,elemsAt,lk_lset_self _ _ _ _ hx5,-Int.not_le,-Int.not_lt,-Nat.not_le,-Nat.not_lt,ty3,ty4,ty9,ty23,ty88,ty89,ty91,ty122,eq88,hm,hl,hr,fi16_eq,fi17_eq,E71,q71_38,n71_29]
    exact IH _ _ (by simp [hx4]) (lk_lset_self _ _ _ _ hx5)
set_option maxHeartbeats 8000000 in
theorem c71 (l : List Int) (a j id : Nat) (nm : List UInt8) (st : St) (h : FeedOk st id) (ha : a < 549755813888) (hj : j < 549755811000) :
    EvF gS 71 [.ptr id 0,.str nm] (setF st id l (nA l a j)) = some (.ret (predV l a j nm).1.enc none,setF (dd st (predV l a j nm).1.set.length) id l (nA l a (j + (predV l a j nm).2))) := by
  refine EvF_start fi29_eq (fun x h => by cases h) m71 ?_
  rw [st71]
  have hm : fi71.marks = [39,2000011,1000000] := rfl
  have hl : fi71.locals = [4,5] := rfl
  have hr : fi71.results = [.cell 4 91] := rfl
  have hb := fd_bound l a j (n := 10) (by omega)
  have hb4 := fd_bound l a (j + 1) (n := 4) (by omega)
  unfold predV
  have hk := fun fr => k11 l a j id 10 fr st h ha (by omega) (by omega)
  have hk4 := fun fr => k11 l a (j + 1) id 4 fr st h ha (by omega) (by omega)
  have hv1 := fun fr => k55 l a (j + 1) id fr st h ha (by omega)
  have hv3 := fun fr => k55 l a (j + 3) id fr st h ha (by omega)
  generalize fd l a j 10 = z at *
  generalize fd l a (j + 1) 4 = y at *
  have hz : z = 0 ∨ z = 1 ∨ z = 2 ∨ z = 3 ∨ z = 4 ∨ z = 5 ∨ z = 6 ∨ z = 7 ∨ z = 8 ∨ z = 9 := by omega
  have hy : y = 0 ∨ y = 1 ∨ y = 2 ∨ y = 3 := by omega
  have d0 := dd_zero st
  have a2 : j + 1 + 1 = j + 2 := rfl
  have a5 : j + 3 + 2 = j + 5 := rfl
  have a3 : j + 1 + 2 = j + 3 := by omega
  have hz2 := fun st a0 a1 a2 a3 a4 a5 a6 a7 a8 a9 a10 a11 hf => frz_predcells (a0 := a0) (a1 := a1) (a2 := a2) (a3 := a3) (a4 := a4) (a5 := a5) (a6 := a6) (a7 := a7) (a8 := a8) (a9 := a9) (a10 := a10) (a11 := a11) hf (frz_nil 4 st)
  have en : encVals [] = [] := rfl
  rcases hz with rfl | rfl | rfl | rfl | rfl | rfl | rfl | rfl | rfl | rfl
  case inr.inr.inr.inr.inr.inr.inr.inr.inl => rcases hy with rfl | rfl | rfl | rfl <;> simp [P4,vzero,d0,en,a2,a3,a5,hz2,w64_1,w64_2,w64_3,w64_4,w64_5,w64_6,w64_7,w64_8,w64_9,w64_10,hk,hk4,hv1,hv3,-Int.not_le,-Int.not_lt,-Nat.not_le,-Nat.not_lt,ty3,ty4,ty9,ty23,ty88,ty89,ty91,ty122,eq88,hm,hl,hr,fi16_eq,fi17_eq,E71,q71_38,n71_29]
  case inr.inr.inr.inr.inr.inr.inr.inr.inr =>
    have hv2 := fun fr => k55 l a (j + 2) id fr st h ha (by omega)
    have e2 : (0 : Int) ≤ y := by omega
    have e3 : IntKind.wrap .i64 (y - 1) = y - 1 := wrap64 (by omega) (by omega)
    have r3 := fun fr k len cs => newRef_setF h fr k len cs l (nA l a (j + 2 + 2))
    simp [-St.obj,-St.set,a2,w64_1,w64_2,w64_3,w64_4,w64_5,w64_6,w64_7,w64_8,w64_9,w64_10,hk,hk4,hv1,hv3,-Int.not_le,-Int.not_lt,-Nat.not_le,-Nat.not_lt,ty3,ty4,ty9,ty23,ty88,ty89,ty91,ty122,eq88,hm,hl,hr,fi16_eq,fi17_eq,E71,q71_38,n71_29]
    refine evK_loop c71_30 _ _ _ _ rfl ?_
    simp [-St.obj,-St.set,e2,e3,hv2,r3,markStep,markAppend,elemsAt,-Int.not_le,-Int.not_lt,-Nat.not_le,-Nat.not_lt,ty3,ty4,ty9,ty23,ty88,ty89,ty91,ty122,eq88,hm,hl,hr,fi16_eq,fi17_eq,E71,q71_38,n71_29]
    have hf := fun T X => L71 nm l a id ha st h (.val (.str nm)) (.val (.int .i64 10)) rfl rfl y.toNat (j + 2 + 2) 0 [valueV l a (j + 2)] T X (by omega) rfl (by simp; omega)
    have ey : ((y.toNat : Nat) : Int) = y := by omega
    rw [ey] at hf
    refine Eq.trans (hf _ _ ?_ ?_) ?_
    · simp
    · simp
    · have hl := vals_length l a (y.toNat + 1) (j + 2)
      have hc : [valueV l a (j + 2)] ++ valsV l a (j + 2 + 2) y.toNat = valsV l a (j + 2) (y.toNat + 1) := rfl
      rw [hc,hl]
      rw [show 0 + 1 + y.toNat = y.toNat + 1 by omega,show j + 2 + 2 + 2 * y.toNat = j + (2 + 2 * (y.toNat + 1)) by omega]
      rfl
  all_goals simp [vzero,d0,en,a2,a3,a5,hz2,w64_1,w64_2,w64_3,w64_4,w64_5,w64_6,w64_7,w64_8,w64_9,w64_10,hk,hk4,hv1,hv3,-Int.not_le,-Int.not_lt,-Nat.not_le,-Nat.not_lt,ty3,ty4,ty9,ty23,ty88,ty89,ty91,ty122,eq88,hm,hl,hr,fi16_eq,fi17_eq,E71,q71_38,n71_29]
theorem k71 (l : List Int) (a j id : Nat) (nm : List UInt8) (fr : Fr) (st : St) (h : FeedOk st id) (ha : a < 549755813888) (hj : j < 549755811000) :
    callStep gS (EvF gS) 71 [.ptr id 0,.str nm] fr (setF st id l (nA l a j)) = some (.ok (.val ((predV l a j nm).1.enc)) (fr.map E.noMem) (setF (dd st ((predV l a j nm).1.set.length)) id l (nA l a (j + (predV l a j nm).2)))) := by
  unfold callStep
  simp only [show gS.ext 71 = none from rfl,fi29_eq,show fi71.pure = false from rfl,Bool.false_eq_true,if_false,c71 l a j id nm st h ha (by omega),retE]
  all_goals rfl
end
end Go.Proofs.Ytdoobejjedpcgaa
namespace Go.Ab
open Go
def aget : List Attr → List UInt8 → Val × Bool
  | [],_ => (vzero,false)
  | a :: r,nm => if a.name = nm then (a.v,true) else aget r nm
def sgt (a b : List UInt8) : Bool := !(Op.bytesLess a b || decide (a = b))
def ftakes (f : List Pred) (l : List Attr) : Bool := f.all fun p => (aget l p.name).2 && ptakes p (aget l p.name).1
def fcov1 (p : Pred) (g : List Pred) : Bool := g.any fun q => decide (q.name = p.name) && pimplies q p
def fcovers (f g : List Pred) : Bool := g.any pvoid || f.all fun p => fcov1 p g
def fsames : List Pred → List Pred → Bool
  | [],[] => true
  | a :: r,b :: s => psame a b && fsames r s
  | _,_ => false
def fsame (f g : List Pred) : Bool := decide (f.length = g.length) && fsames f g
def encPredss (l : List (List Pred)) : List V := l.map fun f => V.slice (encPreds f)
theorem encPredss_length (l : List (List Pred)) : (encPredss l).length = l.length := by simp [encPredss]
theorem encPredss_get (l : List (List Pred)) (i : Nat) : (encPredss l)[i]? = (l[i]?).map fun f => V.slice (encPreds f) := by simp [encPredss]
theorem encPredss_gE (l : List (List Pred)) (i : Nat) (h : i < (encPredss l).length) : (encPredss l)[i]'h = .slice (encPreds (l[i]'(by rw [encPredss_length] at h; exact h))) := by simp [encPredss]
theorem flats_predss (l : List (List Pred)) : flats (encPredss l) = true := by
  induction l with
  | nil => rfl
  | cons x r ih => simp only [encPredss,List.map_cons,flats,V.flat,flats_preds] at ih ⊢; exact ih
attribute [simp] encPredss_length encPredss_get encPredss_gE flats_predss
def POk (f : List Pred) : Prop := f.length < 4611686018427387904 ∧ ∀ p ∈ f,p.ok
theorem POk.get {f : List Pred} (h : POk f) {i : Nat} {p : Pred} (hp : f[i]? = some p) : p.ok := h.2 p (List.mem_of_getElem? hp)
theorem fsames_len : ∀ {a b : List Pred},fsames a b = true → a.length = b.length
  | [],[],_ => rfl
  | a :: r,b :: s,h => by
    simp only [fsames,Bool.and_eq_true] at h
    simp [fsames_len h.2]
  | [],_ :: _,h => by simp [fsames] at h
  | _ :: _,[],h => by simp [fsames] at h
end Go.Ab
namespace Go.Proofs.Ytdoobejjedpcgaa
open Go Go.Ab
set_option maxRecDepth 20000
noncomputable section
variable (fr : Fr) (st : St) (k : Kt)
def fi76 : FI := { body := codeOf Try.f76,ntmps := 22,results := [.cell 4 88,.tmp 5],pers := [0,1,4,5,7,8,9,10],locals := [4,7],pure := true,marks := [] }
theorem fi92_eq : gS.fn 76 = some fi76 := by kernel_rfl
theorem st76 (a0 a1 : V) : startFr fi76 [a0,a1] = { ps := [(0,.val a0),(1,.val a1),(4,.any),(5,.any),(7,.any),(8,.any),(9,.any),(10,.any)],ts := [],lc := [] } := rfl
def b76 : Code := mini (codeOf Try.f76)
def c76_20 : Code := .seq (codeN b76 9829) .ret
def c76_19 : Code := .cond (.tmp 17) c76_20 .skip
def c76_17 : Code := .seq (codeN b76 2661) c76_19
def c76_15 : Code := .seq (codeN b76 1125) c76_17
def c76_24 : Code := codeN b76 485
def c76_13 : Code := .seq (.block 1 c76_15) c76_24
def c76_9 : Code := .seq (.cond (.tmp 11) .skip (.exit 0)) c76_13
def c76_7 : Code := .seq (codeN b76 69) c76_9
def c76_6 : Code := .loop c76_7
def c76_5 : Code := .block 0 c76_6
def c76_3 : Code := .seq (codeN b76 9) c76_5
def c76_25 : Code := .seq (codeN b76 11) .ret
def c76_2 : Code := .seq c76_3 c76_25
def c76_0 : Code := .seq (codeN b76 2) c76_2
theorem E76 : (evK gS fi76 c76_20 fr st k = opsR gS fi76 [op1 18 (.fieldAddr 95 (.tmp 7) 1) 0,
 ld 19 88 18 88,
 sto 88 4 19,
 op1 5 (.assign (.const (.bool true))) 4] fr st (.seq .ret k)) ∧
 evK gS fi76 c76_19 fr st k = condK gS fi76 (fr.op (.tmp 17)).bool? c76_20 .skip fr st k ∧
 (evK gS fi76 c76_17 fr st k = opsR gS fi76 [op1 14 (.fieldAddr 95 (.tmp 7) 0) 0,
 ld 15 9 14 9,
 mv 16 1 9,
 bop 17 .eql 9 15 16 9 4] fr st (.seq c76_19 k)) ∧
 (evK gS fi76 c76_15 fr st k = opsR gS fi76 [ixa 12 42 8 10 0,
 ld 13 95 12 95,
 op1 7 (.alloc 95) 0,
 sto 95 7 13] fr st (.seq c76_17 k)) ∧
 (evK gS fi76 c76_24 fr st k = opsR gS fi76 [op1 20 (.binOp .add 3 (.tmp 10) (.const (.int .i64 1)) 3) 3,
 mv 10 20 3] fr st k) ∧
 evK gS fi76 c76_13 fr st k = evK gS fi76 c76_15 fr st (.blk 1 (.seq c76_24 k)) ∧
 evK gS fi76 c76_9 fr st k = condK gS fi76 (fr.op (.tmp 11)).bool? .skip (.exit 0) fr st (.seq c76_13 k) ∧
 evK gS fi76 c76_7 fr st k = opsR gS fi76 [bop 11 .lss 3 10 9 3 0] fr st (.seq c76_9 k) ∧
 evK gS fi76 c76_5 fr st k = evK gS fi76 c76_6 fr st (.blk 0 k) ∧
 (evK gS fi76 c76_3 fr st k = opsR gS fi76 [mv 8 0 42,
 len1 9 8 42 3,
 op1 10 (.move (.const (.int .i64 0))) 3] fr st (.seq c76_5 k)) ∧
 (evK gS fi76 c76_25 fr st k = opsR gS fi76 [op1 21 (.build 88 #[]) 88,
 sto 88 4 21,
 op1 5 (.assign (.const (.bool false))) 4] fr st (.seq .ret k)) ∧
 evK gS fi76 c76_2 fr st k = evK gS fi76 c76_3 fr st (.seq c76_25 k) ∧
 (evK gS fi76 c76_0 fr st k = opsR gS fi76 [op1 4 (.alloc 88) 0,
 op1 5 (.assign (.const (.bool false))) 4] fr st (.seq c76_2 k)) := ⟨evK_rs 5 rfl (by kernel_rfl),rfl,evK_rs 4 rfl (by kernel_rfl),evK_rs 3 rfl (by kernel_rfl),evK_r 6 (by kernel_rfl),rfl,rfl,evK_rs 2 rfl (by kernel_rfl),rfl,evK_rs 1 rfl (by kernel_rfl),evK_rs 7 rfl (by kernel_rfl),rfl,evK_rs 0 rfl (by kernel_rfl)⟩
theorem m76 : mini fi76.body = c76_0 := by kernel_rfl
theorem n76_6 (fr : Fr) (st : St) (k : Kt) : nextK gS fi76 (.loop c76_7 k) .normal fr st = evK gS fi76 c76_6 fr st k := rfl
set_option maxHeartbeats 4000000 in
theorem L76_6 (l : List Attr) (nm : List UInt8) (h_l : l.length < 4611686018427387904) (st : St) : ∀ (n i : Nat) (j : Int)  (e0 e7 : E) (T : List (Nat × E)) (X : List (Nat × List V)) (ht0 : e0.Tame) (ht7 : e7.Tame) (hx4 : lk X 4 = some [.int .i64 0,.int .i64 0,.float .f64 0,.str [],.bool false]) ,j = (i : Int) → i ≤ (l).length → (l).length - i = n →
    evK gS fi76 c76_6 { ps := [(0,e0),(1,.val (.str nm)),(4,.lp 4 0),(5,.val (.bool false)),(7,e7),(8,.val (.slice (encAttrs l))),(9,.val (.int .i64 l.length)),(10,.val (.int .i64 j))],ts := T,lc := X } st (.blk 0 (.seq c76_25 .nil)) = some ((.ret (.tuple [(aget (l.drop i) nm).1.enc,.bool (aget (l.drop i) nm).2]) none),st) := by
  intro n
  have hm : fi76.marks = [] := rfl
  have hl : fi76.locals = [4,7] := rfl
  have hr : fi76.results = [.cell 4 88,.tmp 5] := rfl
  induction n with
  | zero =>
    intro i j  e0 e7 T X ht0 ht7 hx4  hj hi hn
    obtain rfl : i = (l).length := by omega
    subst hj
    refine evK_loop c76_7 _ st _ _ rfl ?_
    simp (config := { contextual := true,maxSteps := 10000000,maxDischargeDepth := 6 }) [-Int.not_le,-Int.not_lt,-Nat.not_le,-Nat.not_lt,ty3,ty4,ty9,ty42,ty88,ty95,eq88,hm,hl,hr,E76,n76_6,ht0,ht7,hx4,aget,vzero,lk_lset_self _ _ _ _ hx4]
    all_goals first | done | grind | omega | (trace_state; fail)
  | succ n ih =>
    intro i j  e0 e7 T X ht0 ht7 hx4  hj hi hn
    subst hj
    obtain ⟨x,hx⟩ : ∃ x,(l)[i]? = some x := ⟨(l)[i]'(by omega),List.getElem?_eq_getElem (by omega)⟩
    have hd := drop_get hx
    have hlt : (i : Int) < ((l).length : Int) := by omega
    have hlt2 : i < (l).length := by omega
    have hxe : (l)[i]'hlt2 = x := by rw [List.getElem?_eq_getElem hlt2] at hx; exact Option.some.inj hx
    have hw : IntKind.wrap .i64 ((i : Int) + 1) = (i : Int) + 1 := wrap64 (by omega) (by omega)
    have hf4 : ∀ v,lk (lset (X.filter fun x => !(x.1 == 7)) 4 v) 4 = some v := fun v => lk_lset_self _ _ _ _ (by rw [lk_filter _ _ _ rfl]; exact hx4)
    have IH := fun e0 e7 T X ht0 ht7 hx4 => ih (i + 1) ((i : Int) + 1) e0 e7 T X ht0 ht7 hx4 rfl (by omega) (by omega)
    refine evK_loop c76_7 _ st _ _ rfl ?_
    simp (config := { contextual := true,maxSteps := 10000000,maxDischargeDepth := 6 }) [-Int.not_le,-Int.not_lt,-Nat.not_le,-Nat.not_lt,ty3,ty4,ty9,ty42,ty88,ty95,eq88,hm,hl,hr,E76,n76_6,ht0,ht7,hx4,hx,hxe,hd,hlt,hlt2,hw,IH,aget,vzero,hf4,lk_lset_self _ _ _ _ hx4]
    all_goals first | done | grind | omega | (trace_state; fail)
set_option maxHeartbeats 4000000 in
theorem c76 (l : List Attr) (nm : List UInt8)  (h_l : l.length < 4611686018427387904) (st : St) : EvF gS 76 [.slice (encAttrs l),.str nm] st = some (.ret (.tuple [(aget l nm).1.enc,.bool (aget l nm).2]) none,st) := by
  refine EvF_start fi92_eq (fun x h => by cases h) m76 ?_
  rw [st76]
  have hm : fi76.marks = [] := rfl
  have hl : fi76.locals = [4,7] := rfl
  have hr : fi76.results = [.cell 4 88,.tmp 5] := rfl
  simp (config := { contextual := true,maxSteps := 10000000,maxDischargeDepth := 6 }) [-Int.not_le,-Int.not_lt,-Nat.not_le,-Nat.not_lt,ty3,ty4,ty9,ty42,ty88,ty95,eq88,hm,hl,hr,E76,n76_6,(fun e0 e7 T X ht0 ht7 hx4 => L76_6 l nm h_l st _ 0 0  e0 e7 T X ht0 ht7 hx4 rfl (Nat.zero_le _) rfl),h_l]
  all_goals first | done | grind | omega | (trace_state; fail)
theorem k76 (l : List Attr) (nm : List UInt8)  (h_l : l.length < 4611686018427387904) (fr : Fr) (st : St) : callStep gS (EvF gS) 76 [.slice (encAttrs l),.str nm] fr st = some (.ok (retE none (.tuple [(aget l nm).1.enc,.bool (aget l nm).2])) fr st) :=
  call_pure rfl fi92_eq rfl (fun st => c76 l nm h_l st) (by simp)
def fi86 : FI := { body := codeOf Try.f86,ntmps := 26,results := [.cell 4 88,.tmp 5],pers := [0,1,4,5,6],locals := [4],pure := true,marks := [] }
theorem fi93_eq : gS.fn 86 = some fi86 := by kernel_rfl
theorem st86 (a0 a1 : V) : startFr fi86 [a0,a1] = { ps := [(0,.val a0),(1,.val a1),(4,.any),(5,.any),(6,.any)],ts := [],lc := [] } := rfl
def b86 : Code := mini (codeOf Try.f86)
def c86_10 : Code := .cond (.tmp 10) .skip (.exit 0)
def c86_8 : Code := .seq (codeN b86 133) c86_10
def c86_18 : Code := .seq (codeN b86 2341) .ret
def c86_17 : Code := .cond (.tmp 19) c86_18 .skip
def c86_15 : Code := .seq (codeN b86 549) c86_17
def c86_22 : Code := codeN b86 229
def c86_13 : Code := .seq (.block 1 c86_15) c86_22
def c86_7 : Code := .seq c86_8 c86_13
def c86_6 : Code := .loop c86_7
def c86_5 : Code := .block 0 c86_6
def c86_3 : Code := .seq (codeN b86 9) c86_5
def c86_23 : Code := .seq (codeN b86 11) .ret
def c86_2 : Code := .seq c86_3 c86_23
def c86_0 : Code := .seq (codeN b86 2) c86_2
theorem E86 : evK gS fi86 c86_10 fr st k = condK gS fi86 (fr.op (.tmp 10)).bool? .skip (.exit 0) fr st k ∧
 (evK gS fi86 c86_8 fr st k = opsR gS fi86 [mv 7 6 3,
 mv 8 0 42,
 len1 9 8 42 3,
 bop 10 .lss 3 7 9 3 4] fr st (.seq c86_10 k)) ∧
 (evK gS fi86 c86_18 fr st k = opsR gS fi86 [mv 20 0 42,
 mv 21 6 3,
 ixa 22 42 20 21 0,
 op1 23 (.fieldAddr 95 (.tmp 22) 1) 0,
 ld 24 88 23 88,
 sto 88 4 24,
 op1 5 (.assign (.const (.bool true))) 4] fr st (.seq .ret k)) ∧
 evK gS fi86 c86_17 fr st k = condK gS fi86 (fr.op (.tmp 19)).bool? c86_18 .skip fr st k ∧
 (evK gS fi86 c86_15 fr st k = opsR gS fi86 [mv 13 0 42,
 mv 14 6 3,
 ixa 15 42 13 14 0,
 op1 16 (.fieldAddr 95 (.tmp 15) 0) 0,
 ld 17 9 16 9,
 mv 18 1 9,
 bop 19 .eql 9 17 18 9 4] fr st (.seq c86_17 k)) ∧
 (evK gS fi86 c86_22 fr st k = opsR gS fi86 [mv 11 6 3,
 op1 12 (.binOp .add 3 (.tmp 11) (.const (.int .i64 1)) 3) 3,
 asn 6 12 3] fr st k) ∧
 evK gS fi86 c86_13 fr st k = evK gS fi86 c86_15 fr st (.blk 1 (.seq c86_22 k)) ∧
 evK gS fi86 c86_7 fr st k = evK gS fi86 c86_8 fr st (.seq c86_13 k) ∧
 evK gS fi86 c86_5 fr st k = evK gS fi86 c86_6 fr st (.blk 0 k) ∧
 evK gS fi86 c86_3 fr st k = opsR gS fi86 [op1 6 (.assign (.const (.int .i64 0))) 3] fr st (.seq c86_5 k) ∧
 (evK gS fi86 c86_23 fr st k = opsR gS fi86 [op1 25 (.build 88 #[]) 88,
 sto 88 4 25,
 op1 5 (.assign (.const (.bool false))) 4] fr st (.seq .ret k)) ∧
 evK gS fi86 c86_2 fr st k = evK gS fi86 c86_3 fr st (.seq c86_23 k) ∧
 (evK gS fi86 c86_0 fr st k = opsR gS fi86 [op1 4 (.alloc 88) 0,
 op1 5 (.assign (.const (.bool false))) 4] fr st (.seq c86_2 k)) := ⟨rfl,evK_rs 2 rfl (by kernel_rfl),evK_rs 5 rfl (by kernel_rfl),rfl,evK_rs 4 rfl (by kernel_rfl),evK_r 3 (by kernel_rfl),rfl,rfl,rfl,evK_rs 1 rfl (by kernel_rfl),evK_rs 6 rfl (by kernel_rfl),rfl,evK_rs 0 rfl (by kernel_rfl)⟩
theorem m86 : mini fi86.body = c86_0 := by kernel_rfl
theorem n86_6 (fr : Fr) (st : St) (k : Kt) : nextK gS fi86 (.loop c86_7 k) .normal fr st = evK gS fi86 c86_6 fr st k := rfl
set_option maxHeartbeats 4000000 in
theorem L86_6 (l : List Attr) (nm : List UInt8) (h_l : l.length < 4611686018427387904) (st : St) : ∀ (n i : Nat) (j : Int)  (T : List (Nat × E)) (X : List (Nat × List V)) (hx4 : lk X 4 = some [.int .i64 0,.int .i64 0,.float .f64 0,.str [],.bool false]) ,j = (i : Int) → i ≤ (l).length → (l).length - i = n →
    evK gS fi86 c86_6 { ps := [(0,.val (.slice (encAttrs l))),(1,.val (.str nm)),(4,.lp 4 0),(5,.val (.bool false)),(6,.val (.int .i64 j))],ts := T,lc := X } st (.blk 0 (.seq c86_23 .nil)) = some ((.ret (.tuple [(aget (l.drop i) nm).1.enc,.bool (aget (l.drop i) nm).2]) none),st) := by
  intro n
  have hm : fi86.marks = [] := rfl
  have hl : fi86.locals = [4] := rfl
  have hr : fi86.results = [.cell 4 88,.tmp 5] := rfl
  induction n with
  | zero =>
    intro i j   T X hx4  hj hi hn
    obtain rfl : i = (l).length := by omega
    subst hj
    refine evK_loop c86_7 _ st _ _ rfl ?_
    simp (config := { contextual := true,maxSteps := 10000000,maxDischargeDepth := 6 }) [-Int.not_le,-Int.not_lt,-Nat.not_le,-Nat.not_lt,ty3,ty4,ty9,ty42,ty88,ty95,eq88,hm,hl,hr,E86,n86_6,hx4,aget,vzero,lk_lset_self _ _ _ _ hx4]
    all_goals first | done | grind | omega | (trace_state; fail)
  | succ n ih =>
    intro i j   T X hx4  hj hi hn
    subst hj
    obtain ⟨x,hx⟩ : ∃ x,(l)[i]? = some x := ⟨(l)[i]'(by omega),List.getElem?_eq_getElem (by omega)⟩
    have hd := drop_get hx
    have hlt : (i : Int) < ((l).length : Int) := by omega
    have hlt2 : i < (l).length := by omega
    have hxe : (l)[i]'hlt2 = x := by rw [List.getElem?_eq_getElem hlt2] at hx; exact Option.some.inj hx
    have hw : IntKind.wrap .i64 ((i : Int) + 1) = (i : Int) + 1 := wrap64 (by omega) (by omega)
    have hf4 : ∀ v,lk (lset (X.filter fun x => !(x.1 == 7)) 4 v) 4 = some v := fun v => lk_lset_self _ _ _ _ (by rw [lk_filter _ _ _ rfl]; exact hx4)
    have IH := fun T X hx4 => ih (i + 1) ((i : Int) + 1) T X hx4 rfl (by omega) (by omega)
    refine evK_loop c86_7 _ st _ _ rfl ?_
    simp (config := { contextual := true,maxSteps := 10000000,maxDischargeDepth := 6 }) [-Int.not_le,-Int.not_lt,-Nat.not_le,-Nat.not_lt,ty3,ty4,ty9,ty42,ty88,ty95,eq88,hm,hl,hr,E86,n86_6,hx4,hx,hxe,hd,hlt,hlt2,hw,IH,aget,vzero,hf4,lk_lset_self _ _ _ _ hx4]
    all_goals first | done | grind | omega | (trace_state; fail)
set_option maxHeartbeats 4000000 in
theorem c86 (l : List Attr) (nm : List UInt8)  (h_l : l.length < 4611686018427387904) (st : St) : EvF gS 86 [.slice (encAttrs l),.str nm] st = some (.ret (.tuple [(aget l nm).1.enc,.bool (aget l nm).2]) none,st) := by
  refine EvF_start fi93_eq (fun x h => by cases h) m86 ?_
  rw [st86]
  have hm : fi86.marks = [] := rfl
  have hl : fi86.locals = [4] := rfl
  have hr : fi86.results = [.cell 4 88,.tmp 5] := rfl
  simp (config := { contextual := true,maxSteps := 10000000,maxDischargeDepth := 6 }) [-Int.not_le,-Int.not_lt,-Nat.not_le,-Nat.not_lt,ty3,ty4,ty9,ty42,ty88,ty95,eq88,hm,hl,hr,E86,n86_6,(fun T X hx4 => L86_6 l nm h_l st _ 0 0  T X hx4 rfl (Nat.zero_le _) rfl),h_l]
  all_goals first | done | grind | omega | (trace_state; fail)
theorem k86 (l : List Attr) (nm : List UInt8)  (h_l : l.length < 4611686018427387904) (fr : Fr) (st : St) : callStep gS (EvF gS) 86 [.slice (encAttrs l),.str nm] fr st = some (.ok (retE none (.tuple [(aget l nm).1.enc,.bool (aget l nm).2])) fr st) :=
  call_pure rfl fi93_eq rfl (fun st => c86 l nm h_l st) (by simp)
theorem x86 : gS.ext 86 = none := rfl
theorem p86 : fi86.pure = true := rfl
def fi44 : FI := { body := codeOf Try.f44,ntmps := 31,results := [.tmp 4],pers := [0,1,4,6,7,8,9,10,11],locals := [6,7],pure := true,marks := [] }
theorem fi39_eq : gS.fn 44 = some fi44 := by kernel_rfl
theorem st44 (a0 a1 : V) : startFr fi44 [a0,a1] = { ps := [(0,.val a0),(1,.val a1),(4,.any),(6,.any),(7,.any),(8,.any),(9,.any),(10,.any),(11,.any)],ts := [],lc := [] } := rfl
def b44 : Code := mini (codeOf Try.f44)
def c44_22 : Code := .seq (codeN b44 20069) .ret
def c44_21 : Code := .cond (.tmp 29) c44_22 .skip
def c44_19 : Code := .seq (codeN b44 5733) c44_21
def c44_17 : Code := .seq (codeN b44 2661) c44_19
def c44_15 : Code := .seq (codeN b44 1125) c44_17
def c44_26 : Code := codeN b44 485
def c44_13 : Code := .seq (.block 1 c44_15) c44_26
def c44_9 : Code := .seq (.cond (.tmp 12) .skip (.exit 0)) c44_13
def c44_7 : Code := .seq (codeN b44 69) c44_9
def c44_6 : Code := .loop c44_7
def c44_5 : Code := .block 0 c44_6
def c44_3 : Code := .seq (codeN b44 9) c44_5
def c44_27 : Code := .seq (codeN b44 11) .ret
def c44_2 : Code := .seq c44_3 c44_27
def c44_0 : Code := .seq (codeN b44 2) c44_2
theorem E44 : evK gS fi44 c44_22 fr st k = opsR gS fi44 [op1 4 (.assign (.const (.bool false))) 4] fr st (.seq .ret k) ∧
 evK gS fi44 c44_21 fr st k = condK gS fi44 (fr.op (.tmp 29)).bool? c44_22 .skip fr st k ∧
 (evK gS fi44 c44_19 fr st k = opsR gS fi44 [mv 22 8 4,
 op1 23 (.unOp .not 4 (.tmp 22)) 4,
 mv 24 23 4,
 mk (some 25) (.load 91 (.tmp 6)) 91 (some (2,false)),
 mk (some 26) (.load 88 (.tmp 7)) 88 (some (2,false)),
 mk (some 27) (.call { callee := (.value (.func 77)),args := #[(.tmp 25),(.tmp 26)],argTypes := #[91,88] }) 4 (some (2,false)),
 mk (some 28) (.unOp .not 4 (.tmp 27)) 4 (some (2,false)),
 op1 29 (.pick (.tmp 24) (.const (.bool true)) (.tmp 28)) 4] fr st (.seq c44_21 k)) ∧
 (evK gS fi44 c44_17 fr st k = opsR gS fi44 [mv 16 1 42,
 op1 17 (.fieldAddr 91 (.tmp 6) 0) 0,
 ld 18 9 17 9,
 cal 19 76 [(.tmp 16),(.tmp 18)] [42,9] 106,
 mv 15 19 106,
 op1 20 (.extract (.tmp 15) 0) 88,
 op1 21 (.extract (.tmp 15) 1) 4,
 op1 7 (.alloc 88) 0,
 sto 88 7 20,
 asn 8 21 4] fr st (.seq c44_19 k)) ∧
 (evK gS fi44 c44_15 fr st k = opsR gS fi44 [ixa 13 29 9 11 0,
 ld 14 91 13 91,
 op1 6 (.alloc 91) 0,
 sto 91 6 14] fr st (.seq c44_17 k)) ∧
 (evK gS fi44 c44_26 fr st k = opsR gS fi44 [op1 30 (.binOp .add 3 (.tmp 11) (.const (.int .i64 1)) 3) 3,
 mv 11 30 3] fr st k) ∧
 evK gS fi44 c44_13 fr st k = evK gS fi44 c44_15 fr st (.blk 1 (.seq c44_26 k)) ∧
 evK gS fi44 c44_9 fr st k = condK gS fi44 (fr.op (.tmp 12)).bool? .skip (.exit 0) fr st (.seq c44_13 k) ∧
 evK gS fi44 c44_7 fr st k = opsR gS fi44 [bop 12 .lss 3 11 10 3 0] fr st (.seq c44_9 k) ∧
 evK gS fi44 c44_5 fr st k = evK gS fi44 c44_6 fr st (.blk 0 k) ∧
 (evK gS fi44 c44_3 fr st k = opsR gS fi44 [mv 9 0 29,
 len1 10 9 29 3,
 op1 11 (.move (.const (.int .i64 0))) 3] fr st (.seq c44_5 k)) ∧
 evK gS fi44 c44_27 fr st k = opsR gS fi44 [op1 4 (.assign (.const (.bool true))) 4] fr st (.seq .ret k) ∧
 evK gS fi44 c44_2 fr st k = evK gS fi44 c44_3 fr st (.seq c44_27 k) ∧
 evK gS fi44 c44_0 fr st k = opsR gS fi44 [op1 4 (.assign (.const (.bool false))) 4] fr st (.seq c44_2 k) := ⟨evK_rs 6 rfl (by kernel_rfl),rfl,evK_rs 5 rfl (by kernel_rfl),evK_rs 4 rfl (by kernel_rfl),evK_rs 3 rfl (by kernel_rfl),evK_r 7 (by kernel_rfl),rfl,rfl,evK_rs 2 rfl (by kernel_rfl),rfl,evK_rs 1 rfl (by kernel_rfl),evK_rs 8 rfl (by kernel_rfl),rfl,evK_rs 0 rfl (by kernel_rfl)⟩
theorem m44 : mini fi44.body = c44_0 := by kernel_rfl
theorem n44_6 (fr : Fr) (st : St) (k : Kt) : nextK gS fi44 (.loop c44_7 k) .normal fr st = evK gS fi44 c44_6 fr st k := rfl
set_option maxHeartbeats 4000000 in
theorem L44_6 (f : List Pred) (l : List Attr) (h_f : POk f) (h_l : l.length < 4611686018427387904) (st : St) : ∀ (n i : Nat) (j : Int)  (e0 e6 e7 e8 : E) (T : List (Nat × E)) (X : List (Nat × List V)) (ht0 : e0.Tame) (ht6 : e6.Tame) (ht7 : e7.Tame) (ht8 : e8.Tame) ,j = (i : Int) → i ≤ (f).length → (f).length - i = n →
    evK gS fi44 c44_6 { ps := [(0,e0),(1,.val (.slice (encAttrs l))),(4,.val (.bool false)),(6,e6),(7,e7),(8,e8),(9,.val (.slice (encPreds f))),(10,.val (.int .i64 f.length)),(11,.val (.int .i64 j))],ts := T,lc := X } st (.blk 0 (.seq c44_27 .nil)) = some ((.ret (.bool (ftakes (f.drop i) l)) none),st) := by
  intro n
  have hm : fi44.marks = [] := rfl
  have hl : fi44.locals = [6,7] := rfl
  have hr : fi44.results = [.tmp 4] := rfl
  have hfl := h_f.1
  induction n with
  | zero =>
    intro i j  e0 e6 e7 e8 T X ht0 ht6 ht7 ht8  hj hi hn
    obtain rfl : i = (f).length := by omega
    subst hj
    refine evK_loop c44_7 _ st _ _ rfl ?_
    simp (config := { contextual := true,maxSteps := 10000000,maxDischargeDepth := 6 }) [-Int.not_le,-Int.not_lt,-Nat.not_le,-Nat.not_lt,ty3,ty4,ty9,ty29,ty42,ty88,ty91,eq88,hm,hl,hr,k77,k76,E44,n44_6,h_l,ht0,ht6,ht7,ht8]
    all_goals try simp (config := { contextual := true }) [-Int.not_le,-Int.not_lt,-Nat.not_le,-Nat.not_lt,ftakes]
    all_goals first | done | grind | omega | (trace_state; fail)
  | succ n ih =>
    intro i j  e0 e6 e7 e8 T X ht0 ht6 ht7 ht8  hj hi hn
    subst hj
    obtain ⟨x,hx⟩ : ∃ x,(f)[i]? = some x := ⟨(f)[i]'(by omega),List.getElem?_eq_getElem (by omega)⟩
    have hd := drop_get hx
    have hlt : (i : Int) < ((f).length : Int) := by omega
    have hlt2 : i < (f).length := by omega
    have hxe : (f)[i]'hlt2 = x := by rw [List.getElem?_eq_getElem hlt2] at hx; exact Option.some.inj hx
    have hw : IntKind.wrap .i64 ((i : Int) + 1) = (i : Int) + 1 := wrap64 (by omega) (by omega)
    have hpo := h_f.get hx
    have hxo := hpo.1
    have hxs := hpo.2
    have IH := fun e0 e6 e7 e8 T X ht0 ht6 ht7 ht8 => ih (i + 1) ((i : Int) + 1) e0 e6 e7 e8 T X ht0 ht6 ht7 ht8 rfl (by omega) (by omega)
    refine evK_loop c44_7 _ st _ _ rfl ?_
    simp (config := { contextual := true,maxSteps := 10000000,maxDischargeDepth := 6 }) [-Int.not_le,-Int.not_lt,-Nat.not_le,-Nat.not_lt,ty3,ty4,ty9,ty29,ty42,ty88,ty91,eq88,hm,hl,hr,k77,k76,E44,n44_6,h_l,ht0,ht6,ht7,ht8,hx,hxe,hd,hlt,hlt2,hw,IH,hxo,hxs]
    all_goals try simp (config := { contextual := true }) [-Int.not_le,-Int.not_lt,-Nat.not_le,-Nat.not_lt,ftakes]
    all_goals first | done | grind | omega | (trace_state; fail)
set_option maxHeartbeats 4000000 in
theorem c44 (f : List Pred) (l : List Attr) (h_f : POk f) (h_l : l.length < 4611686018427387904) (st : St) : EvF gS 44 [.slice (encPreds f),.slice (encAttrs l)] st = some (.ret (.bool (ftakes f l)) none,st) := by
  refine EvF_start fi39_eq (fun x h => by cases h) m44 ?_
  rw [st44]
  have hm : fi44.marks = [] := rfl
  have hl : fi44.locals = [6,7] := rfl
  have hr : fi44.results = [.tmp 4] := rfl
  have hfl := h_f.1
  simp (config := { contextual := true,maxSteps := 10000000,maxDischargeDepth := 6 }) [-Int.not_le,-Int.not_lt,-Nat.not_le,-Nat.not_lt,ty3,ty4,ty9,ty29,ty42,ty88,ty91,eq88,hm,hl,hr,k77,k76,E44,n44_6,(fun e0 e6 e7 e8 T X ht0 ht6 ht7 ht8 => L44_6 f l h_f h_l st _ 0 0  e0 e6 e7 e8 T X ht0 ht6 ht7 ht8 rfl (Nat.zero_le _) rfl),hfl]
  all_goals try simp (config := { contextual := true }) [-Int.not_le,-Int.not_lt,-Nat.not_le,-Nat.not_lt,ftakes]
  all_goals first | done | grind | omega | (trace_state; fail)
theorem k44 (f : List Pred) (l : List Attr) (h_f : POk f) (h_l : l.length < 4611686018427387904) (fr : Fr) (st : St) : callStep gS (EvF gS) 44 [.slice (encPreds f),.slice (encAttrs l)] fr st = some (.ok (retE none (.bool (ftakes f l))) fr st) :=
  call_pure rfl fi39_eq rfl (fun st => c44 f l h_f h_l st) (by simp)
def fi56 : FI := { body := codeOf Try.f56,ntmps := 35,results := [.tmp 4],pers := [0,1,4,5,6,7],locals := [6],pure := true,marks := [] }
theorem fi40_eq : gS.fn 56 = some fi56 := by kernel_rfl
theorem st56 (a0 a1 : V) : startFr fi56 [a0,a1] = { ps := [(0,.val a0),(1,.val a1),(4,.any),(5,.any),(6,.any),(7,.any)],ts := [],lc := [] } := rfl
def b56 : Code := mini (codeOf Try.f56)
def c56_10 : Code := .cond (.tmp 11) .skip (.exit 0)
def c56_8 : Code := .seq (codeN b56 133) c56_10
def r56_18 : Array Oper := regOps (codeN (codeOf Try.f56) 1317)
def c56_18 : Code := .region 5 r56_18 true
def q56_18 : List (Oper × Fl) := [(mv 24 7 4,⟨true,true,true,false,true,false,true,true,false,false,[]⟩),
 (op1 25 (.unOp .not 4 (.tmp 24)) 4,⟨true,true,true,false,true,false,true,true,false,false,[]⟩),
 (mv 26 25 4,⟨true,true,true,false,true,false,true,true,false,false,[]⟩),
 (mk (some 27) (.move (.tmp 0)) 29 (some (2,false)),⟨true,false,true,false,false,false,true,true,false,false,[]⟩),
 (mk (some 28) (.move (.tmp 5)) 3 (some (2,false)),⟨true,false,true,false,false,false,true,true,false,false,[]⟩),
 (mk (some 29) (.indexAddr 29 (.tmp 27) (.tmp 28)) 0 (some (2,false)),⟨true,false,true,false,false,false,true,true,false,false,[]⟩),
 (mk (some 30) (.load 91 (.tmp 29)) 91 (some (2,false)),⟨true,false,true,false,false,false,true,true,false,false,[]⟩),
 (mk (some 31) (.load 88 (.tmp 6)) 88 (some (2,false)),⟨true,false,true,false,true,false,true,true,false,false,[]⟩),
 (mk (some 32) (.call { callee := (.value (.func 87)),args := #[(.tmp 30),(.tmp 31)],argTypes := #[91,88] }) 4 (some (2,false)),⟨true,true,true,false,true,true,true,true,false,false,[]⟩),
 (mk (some 33) (.unOp .not 4 (.tmp 32)) 4 (some (2,false)),⟨true,true,true,false,true,false,true,true,false,false,[]⟩),
 (op1 34 (.pick (.tmp 26) (.const (.bool true)) (.tmp 33)) 4,⟨true,false,true,false,true,false,true,true,false,false,[]⟩)]
def c56_20 : Code := .seq (codeN b56 4901) .ret
def c56_19 : Code := .cond (.tmp 34) c56_20 .skip
def c56_17 : Code := .seq c56_18 c56_19
def c56_15 : Code := .seq (codeN b56 549) c56_17
def c56_24 : Code := codeN b56 229
def c56_13 : Code := .seq (.block 1 c56_15) c56_24
def c56_7 : Code := .seq c56_8 c56_13
def c56_6 : Code := .loop c56_7
def c56_5 : Code := .block 0 c56_6
def c56_3 : Code := .seq (codeN b56 9) c56_5
def c56_25 : Code := .seq (codeN b56 11) .ret
def c56_2 : Code := .seq c56_3 c56_25
def c56_0 : Code := .seq (codeN b56 2) c56_2
theorem E56 : evK gS fi56 c56_10 fr st k = condK gS fi56 (fr.op (.tmp 11)).bool? .skip (.exit 0) fr st k ∧
 (evK gS fi56 c56_8 fr st k = opsR gS fi56 [mv 8 5 3,
 mv 9 0 29,
 len1 10 9 29 3,
 bop 11 .lss 3 8 10 3 4] fr st (.seq c56_10 k)) ∧
 evK gS fi56 c56_18 fr st k = drwR gS fi56 r56_18 q56_18 fr st k ∧
 evK gS fi56 c56_20 fr st k = opsR gS fi56 [op1 4 (.assign (.const (.bool false))) 4] fr st (.seq .ret k) ∧
 evK gS fi56 c56_19 fr st k = condK gS fi56 (fr.op (.tmp 34)).bool? c56_20 .skip fr st k ∧
 evK gS fi56 c56_17 fr st k = evK gS fi56 c56_18 fr st (.seq c56_19 k) ∧
 (evK gS fi56 c56_15 fr st k = opsR gS fi56 [mv 15 1 42,
 mv 16 0 29,
 mv 17 5 3,
 ixa 18 29 16 17 0,
 op1 19 (.fieldAddr 91 (.tmp 18) 0) 0,
 ld 20 9 19 9,
 cal 21 86 [(.tmp 15),(.tmp 20)] [42,9] 106,
 mv 14 21 106,
 op1 22 (.extract (.tmp 14) 0) 88,
 op1 23 (.extract (.tmp 14) 1) 4,
 op1 6 (.alloc 88) 0,
 sto 88 6 22,
 asn 7 23 4] fr st (.seq c56_17 k)) ∧
 (evK gS fi56 c56_24 fr st k = opsR gS fi56 [mv 12 5 3,
 op1 13 (.binOp .add 3 (.tmp 12) (.const (.int .i64 1)) 3) 3,
 asn 5 13 3] fr st k) ∧
 evK gS fi56 c56_13 fr st k = evK gS fi56 c56_15 fr st (.blk 1 (.seq c56_24 k)) ∧
 evK gS fi56 c56_7 fr st k = evK gS fi56 c56_8 fr st (.seq c56_13 k) ∧
 evK gS fi56 c56_5 fr st k = evK gS fi56 c56_6 fr st (.blk 0 k) ∧
 evK gS fi56 c56_3 fr st k = opsR gS fi56 [op1 5 (.assign (.const (.int .i64 0))) 3] fr st (.seq c56_5 k) ∧
 evK gS fi56 c56_25 fr st k = opsR gS fi56 [op1 4 (.assign (.const (.bool true))) 4] fr st (.seq .ret k) ∧
 evK gS fi56 c56_2 fr st k = evK gS fi56 c56_3 fr st (.seq c56_25 k) ∧
 evK gS fi56 c56_0 fr st k = opsR gS fi56 [op1 4 (.assign (.const (.bool false))) 4] fr st (.seq c56_2 k) := ⟨rfl,evK_rs 2 rfl (by kernel_rfl),evK_dr 5 rfl (by kernel_rfl) (by kernel_rfl),evK_rs 6 rfl (by kernel_rfl),rfl,rfl,evK_rs 4 rfl (by kernel_rfl),evK_r 3 (by kernel_rfl),rfl,rfl,rfl,evK_rs 1 rfl (by kernel_rfl),evK_rs 7 rfl (by kernel_rfl),rfl,evK_rs 0 rfl (by kernel_rfl)⟩
theorem m56 : mini fi56.body = c56_0 := by kernel_rfl
theorem n56_6 (fr : Fr) (st : St) (k : Kt) : nextK gS fi56 (.loop c56_7 k) .normal fr st = evK gS fi56 c56_6 fr st k := rfl
set_option maxHeartbeats 4000000 in
theorem L56_6 (f : List Pred) (l : List Attr) (h_f : POk f) (h_l : l.length < 4611686018427387904) (st : St) : ∀ (n i : Nat) (j : Int)  (e6 e7 : E) (T : List (Nat × E)) (X : List (Nat × List V)) (ht6 : e6.Tame) (ht7 : e7.Tame) ,j = (i : Int) → i ≤ (f).length → (f).length - i = n →
    evK gS fi56 c56_6 { ps := [(0,.val (.slice (encPreds f))),(1,.val (.slice (encAttrs l))),(4,.val (.bool false)),(5,.val (.int .i64 j)),(6,e6),(7,e7)],ts := T,lc := X } st (.blk 0 (.seq c56_25 .nil)) = some ((.ret (.bool (ftakes (f.drop i) l)) none),st) := by
  intro n
  have hm : fi56.marks = [] := rfl
  have hl : fi56.locals = [6] := rfl
  have hr : fi56.results = [.tmp 4] := rfl
  have hfl := h_f.1
  induction n with
  | zero =>
    intro i j  e6 e7 T X ht6 ht7  hj hi hn
    obtain rfl : i = (f).length := by omega
    subst hj
    refine evK_loop c56_7 _ st _ _ rfl ?_
    simp (config := { contextual := true,maxSteps := 10000000,maxDischargeDepth := 6 }) [-Int.not_le,-Int.not_lt,-Nat.not_le,-Nat.not_lt,ty3,ty4,ty9,ty29,ty42,ty88,ty91,eq88,hm,hl,hr,k87,x87,fi22_eq,p87,k86,x86,fi93_eq,p86,E56,q56_18,n56_6,h_l,ht6,ht7]
    all_goals try simp (config := { contextual := true }) [-Int.not_le,-Int.not_lt,-Nat.not_le,-Nat.not_lt,ftakes]
    all_goals first | done | grind | omega | (trace_state; fail)
  | succ n ih =>
    intro i j  e6 e7 T X ht6 ht7  hj hi hn
    subst hj
    obtain ⟨x,hx⟩ : ∃ x,(f)[i]? = some x := ⟨(f)[i]'(by omega),List.getElem?_eq_getElem (by omega)⟩
    have hd := drop_get hx
    have hlt : (i : Int) < ((f).length : Int) := by omega
    have hlt2 : i < (f).length := by omega
    have hxe : (f)[i]'hlt2 = x := by rw [List.getElem?_eq_getElem hlt2] at hx; exact Option.some.inj hx
    have hw : IntKind.wrap .i64 ((i : Int) + 1) = (i : Int) + 1 := wrap64 (by omega) (by omega)
    have hpo := h_f.get hx
    have hxo := hpo.1
    have hxs := hpo.2
    have IH := fun e6 e7 T X ht6 ht7 => ih (i + 1) ((i : Int) + 1) e6 e7 T X ht6 ht7 rfl (by omega) (by omega)
    refine evK_loop c56_7 _ st _ _ rfl ?_
    simp (config := { contextual := true,maxSteps := 10000000,maxDischargeDepth := 6 }) [-Int.not_le,-Int.not_lt,-Nat.not_le,-Nat.not_lt,ty3,ty4,ty9,ty29,ty42,ty88,ty91,eq88,hm,hl,hr,k87,x87,fi22_eq,p87,k86,x86,fi93_eq,p86,E56,q56_18,n56_6,h_l,ht6,ht7,hx,hxe,hd,hlt,hlt2,hw,IH,hxo,hxs]
    all_goals try simp (config := { contextual := true }) [-Int.not_le,-Int.not_lt,-Nat.not_le,-Nat.not_lt,ftakes]
    all_goals first | done | grind | omega | (trace_state; fail)
set_option maxHeartbeats 4000000 in
theorem c56 (f : List Pred) (l : List Attr) (h_f : POk f) (h_l : l.length < 4611686018427387904) (st : St) : EvF gS 56 [.slice (encPreds f),.slice (encAttrs l)] st = some (.ret (.bool (ftakes f l)) none,st) := by
  refine EvF_start fi40_eq (fun x h => by cases h) m56 ?_
  rw [st56]
  have hm : fi56.marks = [] := rfl
  have hl : fi56.locals = [6] := rfl
  have hr : fi56.results = [.tmp 4] := rfl
  have hfl := h_f.1
  simp (config := { contextual := true,maxSteps := 10000000,maxDischargeDepth := 6 }) [-Int.not_le,-Int.not_lt,-Nat.not_le,-Nat.not_lt,ty3,ty4,ty9,ty29,ty42,ty88,ty91,eq88,hm,hl,hr,k87,x87,fi22_eq,p87,k86,x86,fi93_eq,p86,E56,q56_18,n56_6,(fun e6 e7 T X ht6 ht7 => L56_6 f l h_f h_l st _ 0 0  e6 e7 T X ht6 ht7 rfl (Nat.zero_le _) rfl),hfl]
  all_goals try simp (config := { contextual := true }) [-Int.not_le,-Int.not_lt,-Nat.not_le,-Nat.not_lt,ftakes]
  all_goals first | done | grind | omega | (trace_state; fail)
theorem k56 (f : List Pred) (l : List Attr) (h_f : POk f) (h_l : l.length < 4611686018427387904) (fr : Fr) (st : St) : callStep gS (EvF gS) 56 [.slice (encPreds f),.slice (encAttrs l)] fr st = some (.ok (retE none (.bool (ftakes f l))) fr st) :=
  call_pure rfl fi40_eq rfl (fun st => c56 f l h_f h_l st) (by simp)
def fi49 : FI := { body := codeOf Try.f49,ntmps := 27,results := [.tmp 4],pers := [0,1,4,5,12,13],locals := [],pure := true,marks := [] }
theorem fi41_eq : gS.fn 49 = some fi49 := by kernel_rfl
theorem st49 (a0 a1 : V) : startFr fi49 [a0,a1] = { ps := [(0,.val a0),(1,.val a1),(4,.any),(5,.any),(12,.any),(13,.any)],ts := [],lc := [] } := rfl
def b49 : Code := mini (codeOf Try.f49)
def c49_6 : Code := .seq (codeN b49 37) .ret
def c49_5 : Code := .cond (.tmp 10) c49_6 .skip
def c49_3 : Code := .seq (codeN b49 9) c49_5
def r49_26 : Array Oper := regOps (codeN (codeOf Try.f49) 5323)
def c49_26 : Code := .region 6 r49_26 true
def q49_26 : List (Oper × Fl) := [(mv 16 0 29,⟨true,false,true,false,false,false,true,true,false,false,[]⟩),
 (mv 17 5 3,⟨true,false,true,false,false,false,true,true,false,false,[]⟩),
 (ixa 18 29 16 17 0,⟨true,false,true,false,false,false,true,true,false,false,[]⟩),
 (ld 19 91 18 91,⟨true,false,true,false,false,false,true,true,false,false,[]⟩),
 (mv 20 1 29,⟨true,false,true,false,false,false,true,true,false,false,[]⟩),
 (mv 21 5 3,⟨true,false,true,false,true,false,true,true,false,false,[]⟩),
 (ixa 22 29 20 21 0,⟨true,false,true,false,true,false,true,true,false,false,[]⟩),
 (ld 23 91 22 91,⟨true,false,true,false,true,false,true,true,false,false,[]⟩),
 (cal 24 80 [(.tmp 19),(.tmp 23)] [91,91] 4,⟨true,true,true,false,true,true,true,true,false,false,[]⟩),
 (op1 25 (.unOp .not 4 (.tmp 24)) 4,⟨true,true,true,false,true,false,true,true,false,false,[]⟩)]
def c49_28 : Code := .seq (codeN b49 19659) .ret
def c49_27 : Code := .cond (.tmp 25) c49_28 .skip
def c49_25 : Code := .seq c49_26 c49_27
def c49_23 : Code := .seq (codeN b49 2251) c49_25
def c49_32 : Code := codeN b49 971
def c49_21 : Code := .seq (.block 1 c49_23) c49_32
def c49_17 : Code := .seq (.cond (.tmp 14) .skip (.exit 0)) c49_21
def c49_15 : Code := .seq (codeN b49 139) c49_17
def c49_14 : Code := .loop c49_15
def c49_13 : Code := .block 0 c49_14
def c49_11 : Code := .seq (codeN b49 19) c49_13
def c49_33 : Code := .seq (codeN b49 23) .ret
def c49_10 : Code := .seq c49_11 c49_33
def c49_2 : Code := .seq c49_3 c49_10
def c49_0 : Code := .seq (codeN b49 2) c49_2
theorem E49 : evK gS fi49 c49_6 fr st k = opsR gS fi49 [op1 4 (.assign (.const (.bool false))) 4] fr st (.seq .ret k) ∧
 evK gS fi49 c49_5 fr st k = condK gS fi49 (fr.op (.tmp 10)).bool? c49_6 .skip fr st k ∧
 (evK gS fi49 c49_3 fr st k = opsR gS fi49 [mv 6 0 29,
 len1 7 6 29 3,
 mv 8 1 29,
 len1 9 8 29 3,
 bop 10 .neq 3 7 9 3 4] fr st (.seq c49_5 k)) ∧
 evK gS fi49 c49_26 fr st k = drwR gS fi49 r49_26 q49_26 fr st k ∧
 evK gS fi49 c49_28 fr st k = opsR gS fi49 [op1 4 (.assign (.const (.bool false))) 4] fr st (.seq .ret k) ∧
 evK gS fi49 c49_27 fr st k = condK gS fi49 (fr.op (.tmp 25)).bool? c49_28 .skip fr st k ∧
 evK gS fi49 c49_25 fr st k = evK gS fi49 c49_26 fr st (.seq c49_27 k) ∧
 (evK gS fi49 c49_23 fr st k = opsR gS fi49 [mv 15 13 3,
 asn 5 15 3] fr st (.seq c49_25 k)) ∧
 (evK gS fi49 c49_32 fr st k = opsR gS fi49 [op1 26 (.binOp .add 3 (.tmp 13) (.const (.int .i64 1)) 3) 3,
 mv 13 26 3] fr st k) ∧
 evK gS fi49 c49_21 fr st k = evK gS fi49 c49_23 fr st (.blk 1 (.seq c49_32 k)) ∧
 evK gS fi49 c49_17 fr st k = condK gS fi49 (fr.op (.tmp 14)).bool? .skip (.exit 0) fr st (.seq c49_21 k) ∧
 evK gS fi49 c49_15 fr st k = opsR gS fi49 [bop 14 .lss 3 13 12 3 0] fr st (.seq c49_17 k) ∧
 evK gS fi49 c49_13 fr st k = evK gS fi49 c49_14 fr st (.blk 0 k) ∧
 (evK gS fi49 c49_11 fr st k = opsR gS fi49 [mv 11 0 29,
 len1 12 11 29 3,
 op1 13 (.move (.const (.int .i64 0))) 3] fr st (.seq c49_13 k)) ∧
 evK gS fi49 c49_33 fr st k = opsR gS fi49 [op1 4 (.assign (.const (.bool true))) 4] fr st (.seq .ret k) ∧
 evK gS fi49 c49_10 fr st k = evK gS fi49 c49_11 fr st (.seq c49_33 k) ∧
 evK gS fi49 c49_2 fr st k = evK gS fi49 c49_3 fr st (.seq c49_10 k) ∧
 evK gS fi49 c49_0 fr st k = opsR gS fi49 [op1 4 (.assign (.const (.bool false))) 4] fr st (.seq c49_2 k) := ⟨evK_rs 2 rfl (by kernel_rfl),rfl,evK_rs 1 rfl (by kernel_rfl),evK_dr 6 rfl (by kernel_rfl) (by kernel_rfl),evK_rs 7 rfl (by kernel_rfl),rfl,rfl,evK_rs 5 rfl (by kernel_rfl),evK_r 8 (by kernel_rfl),rfl,rfl,evK_rs 4 rfl (by kernel_rfl),rfl,evK_rs 3 rfl (by kernel_rfl),evK_rs 9 rfl (by kernel_rfl),rfl,rfl,evK_rs 0 rfl (by kernel_rfl)⟩
theorem m49 : mini fi49.body = c49_0 := by kernel_rfl
theorem n49_14 (fr : Fr) (st : St) (k : Kt) : nextK gS fi49 (.loop c49_15 k) .normal fr st = evK gS fi49 c49_14 fr st k := rfl
set_option maxHeartbeats 4000000 in
theorem L49_14 (f : List Pred) (g : List Pred) (h_f : POk f) (h_g : POk g) (st : St) : ∀ (n i : Nat) (j : Int) (m : Int) (e5 : E) (T : List (Nat × E)) (X : List (Nat × List V)) (ht5 : e5.Tame) (hlen : f.length = g.length) (hm12 : m = ((f.length : Nat) : Int)),j = (i : Int) → i ≤ (f).length → (f).length - i = n →
    evK gS fi49 c49_14 { ps := [(0,.val (.slice (encPreds f))),(1,.val (.slice (encPreds g))),(4,.val (.bool false)),(5,e5),(12,.val (.int .i64 m)),(13,.val (.int .i64 j))],ts := T,lc := X } st (.blk 0 (.seq c49_33 .nil)) = some ((.ret (.bool (fsames (f.drop i) (g.drop i))) none),st) := by
  intro n
  have hm : fi49.marks = [] := rfl
  have hl : fi49.locals = [] := rfl
  have hr : fi49.results = [.tmp 4] := rfl
  have hfl := h_f.1
  induction n with
  | zero =>
    intro i j m e5 T X ht5 hlen hm12 hj hi hn
    obtain rfl : i = (f).length := by omega
    subst hj
    subst hm12
    have hz : g.drop f.length = [] := List.drop_eq_nil_of_le (by omega)
    refine evK_loop c49_15 _ st _ _ rfl ?_
    simp (config := { contextual := true,maxSteps := 10000000,maxDischargeDepth := 6 }) [-Int.not_le,-Int.not_lt,-Nat.not_le,-Nat.not_lt,ty3,ty4,ty29,ty91,hm,hl,hr,k80,x80,fi25_eq,p80,E49,q49_26,n49_14,ht5,hz]
    all_goals try simp (config := { contextual := true }) [-Int.not_le,-Int.not_lt,-Nat.not_le,-Nat.not_lt,fsames]
    all_goals first | done | grind | omega | (trace_state; fail)
  | succ n ih =>
    intro i j m e5 T X ht5 hlen hm12 hj hi hn
    subst hj
    obtain ⟨x,hx⟩ : ∃ x,(f)[i]? = some x := ⟨(f)[i]'(by omega),List.getElem?_eq_getElem (by omega)⟩
    have hd := drop_get hx
    have hlt : (i : Int) < ((f).length : Int) := by omega
    have hlt2 : i < (f).length := by omega
    have hxe : (f)[i]'hlt2 = x := by rw [List.getElem?_eq_getElem hlt2] at hx; exact Option.some.inj hx
    have hw : IntKind.wrap .i64 ((i : Int) + 1) = (i : Int) + 1 := wrap64 (by omega) (by omega)
    subst hm12
    have hpo := h_f.get hx
    have hxo := hpo.1
    have hxs := hpo.2
    obtain ⟨y,hy⟩ : ∃ y,(g)[i]? = some y := ⟨(g)[i]'(by omega),List.getElem?_eq_getElem (by omega)⟩
    have hyd := drop_get hy
    have hyl : i < (g).length := by omega
    have hye : (g)[i]'hyl = y := by rw [List.getElem?_eq_getElem hyl] at hy; exact Option.some.inj hy
    have hpy := h_g.get hy
    have hyo := hpy.1
    have hys := hpy.2
    have IH := fun m e5 T X ht5 hlen hm12 => ih (i + 1) ((i : Int) + 1) m e5 T X ht5 hlen hm12 rfl (by omega) (by omega)
    refine evK_loop c49_15 _ st _ _ rfl ?_
    simp (config := { contextual := true,maxSteps := 10000000,maxDischargeDepth := 6 }) [-Int.not_le,-Int.not_lt,-Nat.not_le,-Nat.not_lt,ty3,ty4,ty29,ty91,hm,hl,hr,k80,x80,fi25_eq,p80,E49,q49_26,n49_14,ht5,hx,hxe,hd,hlt,hlt2,hw,IH,hy,hye,hyd,hlen,hxo,hxs,hyo,hys]
    all_goals try simp (config := { contextual := true }) [-Int.not_le,-Int.not_lt,-Nat.not_le,-Nat.not_lt,fsames]
    all_goals first | done | grind | omega | (trace_state; fail)
set_option maxHeartbeats 4000000 in
theorem c49 (f : List Pred) (g : List Pred) (h_f : POk f) (h_g : POk g) (st : St) : EvF gS 49 [.slice (encPreds f),.slice (encPreds g)] st = some (.ret (.bool (fsame f g)) none,st) := by
  refine EvF_start fi41_eq (fun x h => by cases h) m49 ?_
  rw [st49]
  have hm : fi49.marks = [] := rfl
  have hl : fi49.locals = [] := rfl
  have hr : fi49.results = [.tmp 4] := rfl
  have hfl := h_f.1
  simp (config := { contextual := true,maxSteps := 10000000,maxDischargeDepth := 6 }) [-Int.not_le,-Int.not_lt,-Nat.not_le,-Nat.not_lt,ty3,ty4,ty29,ty91,hm,hl,hr,k80,x80,fi25_eq,p80,E49,q49_26,n49_14,(fun m e5 T X ht5 hlen hm12 => L49_14 f g h_f h_g st _ 0 0  m e5 T X ht5 hlen hm12 rfl (Nat.zero_le _) rfl),hfl]
  all_goals try simp (config := { contextual := true }) [-Int.not_le,-Int.not_lt,-Nat.not_le,-Nat.not_lt,fsame]
  all_goals first | done | grind | omega | (trace_state; fail)
theorem k49 (f : List Pred) (g : List Pred) (h_f : POk f) (h_g : POk g) (fr : Fr) (st : St) : callStep gS (EvF gS) 49 [.slice (encPreds f),.slice (encPreds g)] fr st = some (.ok (retE none (.bool (fsame f g))) fr st) :=
  call_pure rfl fi41_eq rfl (fun st => c49 f g h_f h_g st) (by simp)
def fi15 : FI := { body := codeOf Try.f15,ntmps := 27,results := [.tmp 4],pers := [0,1,4,5],locals := [],pure := true,marks := [] }
theorem fi42_eq : gS.fn 15 = some fi15 := by kernel_rfl
theorem st15 (a0 a1 : V) : startFr fi15 [a0,a1] = { ps := [(0,.val a0),(1,.val a1),(4,.any),(5,.any)],ts := [],lc := [] } := rfl
def b15 : Code := mini (codeOf Try.f15)
def c15_6 : Code := .seq (codeN b15 37) .ret
def c15_5 : Code := .cond (.tmp 10) c15_6 .skip
def c15_3 : Code := .seq (codeN b15 9) c15_5
def c15_18 : Code := .cond (.tmp 14) .skip (.exit 0)
def c15_16 : Code := .seq (codeN b15 267) c15_18
def r15_24 : Array Oper := regOps (codeN (codeOf Try.f15) 1099)
def c15_24 : Code := .region 6 r15_24 true
def q15_24 : List (Oper × Fl) := [(mv 17 0 29,⟨true,false,true,false,false,false,true,true,false,false,[]⟩),
 (mv 18 5 3,⟨true,false,true,false,false,false,true,true,false,false,[]⟩),
 (ixa 19 29 17 18 0,⟨true,false,true,false,false,false,true,true,false,false,[]⟩),
 (ld 20 91 19 91,⟨true,false,true,false,false,false,true,true,false,false,[]⟩),
 (mv 21 1 29,⟨true,false,true,false,false,false,true,true,false,false,[]⟩),
 (mv 22 5 3,⟨true,false,true,false,true,false,true,true,false,false,[]⟩),
 (ixa 23 29 21 22 0,⟨true,false,true,false,true,false,true,true,false,false,[]⟩),
 (ld 24 91 23 91,⟨true,false,true,false,true,false,true,true,false,false,[]⟩),
 (cal 25 54 [(.tmp 20),(.tmp 24)] [91,91] 4,⟨true,true,true,false,true,true,true,true,false,false,[]⟩),
 (op1 26 (.unOp .not 4 (.tmp 25)) 4,⟨true,true,true,false,true,false,true,true,false,false,[]⟩)]
def c15_26 : Code := .seq (codeN b15 4683) .ret
def c15_25 : Code := .cond (.tmp 26) c15_26 .skip
def c15_23 : Code := .seq c15_24 c15_25
def c15_30 : Code := codeN b15 459
def c15_21 : Code := .seq (.block 1 c15_23) c15_30
def c15_15 : Code := .seq c15_16 c15_21
def c15_14 : Code := .loop c15_15
def c15_13 : Code := .block 0 c15_14
def c15_11 : Code := .seq (codeN b15 19) c15_13
def c15_31 : Code := .seq (codeN b15 23) .ret
def c15_10 : Code := .seq c15_11 c15_31
def c15_2 : Code := .seq c15_3 c15_10
def c15_0 : Code := .seq (codeN b15 2) c15_2
theorem E15 : evK gS fi15 c15_6 fr st k = opsR gS fi15 [op1 4 (.assign (.const (.bool false))) 4] fr st (.seq .ret k) ∧
 evK gS fi15 c15_5 fr st k = condK gS fi15 (fr.op (.tmp 10)).bool? c15_6 .skip fr st k ∧
 (evK gS fi15 c15_3 fr st k = opsR gS fi15 [mv 6 0 29,
 len1 7 6 29 3,
 mv 8 1 29,
 len1 9 8 29 3,
 bop 10 .neq 3 7 9 3 4] fr st (.seq c15_5 k)) ∧
 evK gS fi15 c15_18 fr st k = condK gS fi15 (fr.op (.tmp 14)).bool? .skip (.exit 0) fr st k ∧
 (evK gS fi15 c15_16 fr st k = opsR gS fi15 [mv 11 5 3,
 mv 12 0 29,
 len1 13 12 29 3,
 bop 14 .lss 3 11 13 3 4] fr st (.seq c15_18 k)) ∧
 evK gS fi15 c15_24 fr st k = drwR gS fi15 r15_24 q15_24 fr st k ∧
 evK gS fi15 c15_26 fr st k = opsR gS fi15 [op1 4 (.assign (.const (.bool false))) 4] fr st (.seq .ret k) ∧
 evK gS fi15 c15_25 fr st k = condK gS fi15 (fr.op (.tmp 26)).bool? c15_26 .skip fr st k ∧
 evK gS fi15 c15_23 fr st k = evK gS fi15 c15_24 fr st (.seq c15_25 k) ∧
 (evK gS fi15 c15_30 fr st k = opsR gS fi15 [mv 15 5 3,
 op1 16 (.binOp .add 3 (.tmp 15) (.const (.int .i64 1)) 3) 3,
 asn 5 16 3] fr st k) ∧
 evK gS fi15 c15_21 fr st k = evK gS fi15 c15_23 fr st (.blk 1 (.seq c15_30 k)) ∧
 evK gS fi15 c15_15 fr st k = evK gS fi15 c15_16 fr st (.seq c15_21 k) ∧
 evK gS fi15 c15_13 fr st k = evK gS fi15 c15_14 fr st (.blk 0 k) ∧
 evK gS fi15 c15_11 fr st k = opsR gS fi15 [op1 5 (.assign (.const (.int .i64 0))) 3] fr st (.seq c15_13 k) ∧
 evK gS fi15 c15_31 fr st k = opsR gS fi15 [op1 4 (.assign (.const (.bool true))) 4] fr st (.seq .ret k) ∧
 evK gS fi15 c15_10 fr st k = evK gS fi15 c15_11 fr st (.seq c15_31 k) ∧
 evK gS fi15 c15_2 fr st k = evK gS fi15 c15_3 fr st (.seq c15_10 k) ∧
 evK gS fi15 c15_0 fr st k = opsR gS fi15 [op1 4 (.assign (.const (.bool false))) 4] fr st (.seq c15_2 k) := ⟨evK_rs 2 rfl (by kernel_rfl),rfl,evK_rs 1 rfl (by kernel_rfl),rfl,evK_rs 4 rfl (by kernel_rfl),evK_dr 6 rfl (by kernel_rfl) (by kernel_rfl),evK_rs 7 rfl (by kernel_rfl),rfl,rfl,evK_r 5 (by kernel_rfl),rfl,rfl,rfl,evK_rs 3 rfl (by kernel_rfl),evK_rs 8 rfl (by kernel_rfl),rfl,rfl,evK_rs 0 rfl (by kernel_rfl)⟩
theorem m15 : mini fi15.body = c15_0 := by kernel_rfl
theorem n15_14 (fr : Fr) (st : St) (k : Kt) : nextK gS fi15 (.loop c15_15 k) .normal fr st = evK gS fi15 c15_14 fr st k := rfl
set_option maxHeartbeats 4000000 in
theorem L15_14 (f : List Pred) (g : List Pred) (h_f : POk f) (h_g : POk g) (st : St) : ∀ (n i : Nat) (j : Int)  (T : List (Nat × E)) (X : List (Nat × List V))  (hlen : f.length = g.length),j = (i : Int) → i ≤ (f).length → (f).length - i = n →
    evK gS fi15 c15_14 { ps := [(0,.val (.slice (encPreds f))),(1,.val (.slice (encPreds g))),(4,.val (.bool false)),(5,.val (.int .i64 j))],ts := T,lc := X } st (.blk 0 (.seq c15_31 .nil)) = some ((.ret (.bool (fsames (f.drop i) (g.drop i))) none),st) := by
  intro n
  have hm : fi15.marks = [] := rfl
  have hl : fi15.locals = [] := rfl
  have hr : fi15.results = [.tmp 4] := rfl
  have hfl := h_f.1
  induction n with
  | zero =>
    intro i j   T X  hlen hj hi hn
    obtain rfl : i = (f).length := by omega
    subst hj
    have hz : g.drop f.length = [] := List.drop_eq_nil_of_le (by omega)
    refine evK_loop c15_15 _ st _ _ rfl ?_
    simp (config := { contextual := true,maxSteps := 10000000,maxDischargeDepth := 6 }) [-Int.not_le,-Int.not_lt,-Nat.not_le,-Nat.not_lt,ty3,ty4,ty29,ty91,hm,hl,hr,k54,x54,fi26_eq,p54,E15,q15_24,n15_14,hz]
    all_goals try simp (config := { contextual := true }) [-Int.not_le,-Int.not_lt,-Nat.not_le,-Nat.not_lt,fsames]
    all_goals first | done | grind | omega | (trace_state; fail)
  | succ n ih =>
    intro i j   T X  hlen hj hi hn
    subst hj
    obtain ⟨x,hx⟩ : ∃ x,(f)[i]? = some x := ⟨(f)[i]'(by omega),List.getElem?_eq_getElem (by omega)⟩
    have hd := drop_get hx
    have hlt : (i : Int) < ((f).length : Int) := by omega
    have hlt2 : i < (f).length := by omega
    have hxe : (f)[i]'hlt2 = x := by rw [List.getElem?_eq_getElem hlt2] at hx; exact Option.some.inj hx
    have hw : IntKind.wrap .i64 ((i : Int) + 1) = (i : Int) + 1 := wrap64 (by omega) (by omega)
    have hpo := h_f.get hx
    have hxo := hpo.1
    have hxs := hpo.2
    obtain ⟨y,hy⟩ : ∃ y,(g)[i]? = some y := ⟨(g)[i]'(by omega),List.getElem?_eq_getElem (by omega)⟩
    have hyd := drop_get hy
    have hyl : i < (g).length := by omega
    have hye : (g)[i]'hyl = y := by rw [List.getElem?_eq_getElem hyl] at hy; exact Option.some.inj hy
    have hpy := h_g.get hy
    have hyo := hpy.1
    have hys := hpy.2
    have IH := fun T X hlen => ih (i + 1) ((i : Int) + 1) T X hlen rfl (by omega) (by omega)
    refine evK_loop c15_15 _ st _ _ rfl ?_
    simp (config := { contextual := true,maxSteps := 10000000,maxDischargeDepth := 6 }) [-Int.not_le,-Int.not_lt,-Nat.not_le,-Nat.not_lt,ty3,ty4,ty29,ty91,hm,hl,hr,k54,x54,fi26_eq,p54,E15,q15_24,n15_14,hx,hxe,hd,hlt,hlt2,hw,IH,hy,hye,hyd,hlen,hxo,hxs,hyo,hys]
    all_goals try simp (config := { contextual := true }) [-Int.not_le,-Int.not_lt,-Nat.not_le,-Nat.not_lt,fsames]
    all_goals first | done | grind | omega | (trace_state; fail)
set_option maxHeartbeats 4000000 in
theorem c15 (f : List Pred) (g : List Pred) (h_f : POk f) (h_g : POk g) (st : St) : EvF gS 15 [.slice (encPreds f),.slice (encPreds g)] st = some (.ret (.bool (fsame f g)) none,st) := by
  refine EvF_start fi42_eq (fun x h => by cases h) m15 ?_
  rw [st15]
  have hm : fi15.marks = [] := rfl
  have hl : fi15.locals = [] := rfl
  have hr : fi15.results = [.tmp 4] := rfl
  have hfl := h_f.1
  simp (config := { contextual := true,maxSteps := 10000000,maxDischargeDepth := 6 }) [-Int.not_le,-Int.not_lt,-Nat.not_le,-Nat.not_lt,ty3,ty4,ty29,ty91,hm,hl,hr,k54,x54,fi26_eq,p54,E15,q15_24,n15_14,(fun T X hlen => L15_14 f g h_f h_g st _ 0 0  T X hlen rfl (Nat.zero_le _) rfl),hfl]
  all_goals try simp (config := { contextual := true }) [-Int.not_le,-Int.not_lt,-Nat.not_le,-Nat.not_lt,fsame]
  all_goals first | done | grind | omega | (trace_state; fail)
theorem k15 (f : List Pred) (g : List Pred) (h_f : POk f) (h_g : POk g) (fr : Fr) (st : St) : callStep gS (EvF gS) 15 [.slice (encPreds f),.slice (encPreds g)] fr st = some (.ok (retE none (.bool (fsame f g))) fr st) :=
  call_pure rfl fi42_eq rfl (fun st => c15 f g h_f h_g st) (by simp)
theorem x15 : gS.ext 15 = none := rfl
theorem p15 : fi15.pure = true := rfl
end
end Go.Proofs.Ytdoobejjedpcgaa
namespace Go.Ab
open Go
theorem nw_obj (st : St) (m : Nat) (cs : List V) : St.obj (nw st m cs) (st.objs.length + m) = some cs := gr_obj st m cs
theorem nw_set {st : St} (h : st.wp ≤ st.objs.length) (m : Nat) (cs cs' : List V) : St.set (nw st m cs) (st.objs.length + m) cs' = some (nw st m cs') := by
  unfold St.set
  rw [if_pos (by rw [gr_wp]; omega)]
  unfold nw
  simp only [Option.some.injEq,St.mk.injEq,and_true]
  rw [List.set_append_right _ _ (by omega),Nat.add_sub_cancel_left,List.set_append_right _ _ (by simp),List.length_replicate,Nat.sub_self]
  rfl
theorem nw_dead (st : St) (m : Nat) : nw st m [] = dd st (m + 1) := by
  unfold nw dd
  rw [List.replicate_succ']
theorem nw_kill {st : St} (h : st.wp ≤ st.objs.length) (m : Nat) (cs : List V) : St.set (nw st m cs) (st.objs.length + m) [] = some (dd st (m + 1)) := by
  rw [nw_set h,nw_dead]
theorem newRef_dd' (st : St) (fr : Fr) (m k len : Nat) (cs : List V) : newRef fr (dd st m) k len cs = .ok (.val (.sref false k (st.objs.length + m) 0 len)) fr (nw st m cs) := by
  unfold newRef
  rw [dd_len]
  unfold nw dd
  simp
theorem newRef_0 (st : St) (fr : Fr) (k len : Nat) (cs : List V) : newRef fr st k len cs = .ok (.val (.sref false k st.objs.length 0 len)) fr (nw st 0 cs) := by
  unfold newRef nw
  simp
variable {α : Type}
theorem row_len (c : α → List V) (k : Nat) (hc : ∀ x,(c x).length = k) : ∀ l : List α,(l.flatMap c).length = l.length * k
  | [] => by simp
  | x :: r => by rw [List.flatMap_cons,List.length_append,hc,row_len c k hc r,List.length_cons,Nat.succ_mul]; omega
theorem row_get (c : α → List V) (k : Nat) (hc : ∀ x,(c x).length = k) {l : List α} {i j : Nat} {x : α} (hx : l[i]? = some x) (hj : j < k) : (l.flatMap c)[i * k + j]? = (c x)[j]? := by
  have hs : l = l.take i ++ x :: l.drop (i + 1) := by
    have h1 := List.take_append_drop i l
    rw [drop_get hx] at h1
    exact h1.symm
  have hl : (l.take i).length = i := by
    have := (List.getElem?_eq_some_iff.1 hx).1
    simp; omega
  rw [hs,List.flatMap_append,List.getElem?_append_right (by rw [row_len c k hc,hl]; omega),row_len c k hc,hl,Nat.add_sub_cancel_left,List.flatMap_cons,List.getElem?_append_left (by rw [hc]; exact hj)]
theorem row_splice (c : α → List V) (k : Nat) (hc : ∀ x,(c x).length = k) {l : List α} {i j : Nat} {x y : α} {vs : List V} (hx : l[i]? = some x) (hs : splice (c x) j vs = some (c y)) :
    splice (l.flatMap c) (i * k + j) vs = some ((l.set i y).flatMap c) := by
  have hil := (List.getElem?_eq_some_iff.1 hx).1
  have hsl : l = l.take i ++ x :: l.drop (i + 1) := by
    have h1 := List.take_append_drop i l
    rw [drop_get hx] at h1
    exact h1.symm
  have hl : (l.take i).length = i := by simp; omega
  have hset : l.set i y = l.take i ++ y :: l.drop (i + 1) := by
    conv => lhs; rw [hsl]
    rw [List.set_append_right _ _ (by rw [hl]; omega),hl,Nat.sub_self]
    rfl
  have hA : ((l.take i).flatMap c).length = i * k := by rw [row_len c k hc,hl]
  unfold splice at hs ⊢
  split at hs
  · rename_i hle
    have hs' := Option.some.inj hs
    rw [hc] at hle
    rw [hset,List.flatMap_append,List.flatMap_cons,← hs']
    conv => lhs; rw [hsl]
    rw [List.flatMap_append,List.flatMap_cons]
    generalize (l.take i).flatMap c = A at hA ⊢
    generalize (l.drop (i + 1)).flatMap c = C
    have hB := hc x
    generalize c x = B at hB hs' ⊢
    rw [if_pos (by simp only [List.length_append]; omega)]
    congr 1
    rw [← hA,List.take_append,List.take_of_length_le (by omega),Nat.add_sub_cancel_left,List.take_append_of_le_length (by omega),List.drop_append,List.drop_of_length_le (by omega),show A.length + j + vs.length - A.length = j + vs.length by omega,List.drop_append_of_le_length (by omega)]
    simp [List.append_assoc]
  · cases hs
theorem row_one (c : α → List V) (hc : ∀ x,(c x).all V.one = true) : ∀ l : List α,(l.flatMap c).all V.one = true
  | [] => rfl
  | x :: r => by rw [List.flatMap_cons,List.all_append,hc x,row_one c hc r]; rfl
theorem flats_append : ∀ (a b : List V),flats (a ++ b) = (flats a && flats b)
  | [],_ => by simp [flats]
  | v :: a,b => by simp only [List.cons_append,flats,flats_append a b,Bool.and_assoc]
theorem row_flats (c : α → List V) (hc : ∀ x,flats (c x) = true) : ∀ l : List α,flats (l.flatMap c) = true
  | [] => rfl
  | x :: r => by rw [List.flatMap_cons,flats_append,hc x,row_flats c hc r]; rfl
theorem row_strip (c d : α → List V) (hc : ∀ x,(c x).map V.strip1 = d x) : ∀ l : List α,(l.flatMap c).map V.strip1 = l.flatMap d
  | [] => rfl
  | x :: r => by rw [List.flatMap_cons,List.map_append,hc x,row_strip c d hc r,List.flatMap_cons]
theorem frz_row {st st1 : St} (n id k : Nat) (hk : 0 < k) (c d : α → List V) (hc : ∀ x,(c x).length = k) (hd : ∀ x,(d x).length = k) (hcd : ∀ x,(c x).map V.strip1 = d x) (h1 : ∀ x,(d x).all V.one = true) (hf : ∀ x,flats (d x) = true)
    (l : List α) (hl : l ≠ []) (ho : St.obj st id = some (l.flatMap c)) (hs : St.set st id [] = some st1) : frz (n + 1) st (.sref false k id 0 l.length) = some (.slice (chunk (Nat.blt 1 k) k l.length (l.flatMap d)),st1) := by
  have hne : ¬ l.length = 0 := by simpa using hl
  unfold frz
  simp only [hne,if_false,ho,hs,row_len c k hc,List.drop_zero,Nat.zero_add,Nat.le_refl,and_true,hk,if_true]
  rw [List.take_of_length_le (by rw [row_len c k hc]; omega),row_strip c d hcd,frzL_flat _ _ _ (row_flats d hf l)]
  simp only [row_len d k hd,row_one d h1 l,and_self,if_true]
def Pred.cellsO (q : Pred × Bool) : List V := [.str q.1.name,.int .i64 q.1.test,.int .i64 q.1.v.kind,.int .i64 q.1.v.n,.float .f64 q.1.v.x,.str q.1.v.s,.bool q.1.v.b,.int .i64 q.1.w.kind,.int .i64 q.1.w.n,.float .f64 q.1.w.x,.str q.1.w.s,.bool q.1.w.b,if q.2 then .osl 5 (encVals q.1.set) else .slice (encVals q.1.set)]
theorem cellsO_len (q : Pred × Bool) : (Pred.cellsO q).length = 13 := rfl
theorem cells_len (q : Pred × Bool) : (Pred.cells q.1).length = 13 := rfl
theorem cellsO_strip (q : Pred × Bool) : (Pred.cellsO q).map V.strip1 = Pred.cells q.1 := by
  obtain ⟨p,b⟩ := q
  cases b <;> rfl
theorem cells_one (q : Pred × Bool) : (Pred.cells q.1).all V.one = true := rfl
theorem cells_flats (q : Pred × Bool) : flats (Pred.cells q.1) = true := by simp [flats,V.flat]
theorem chunk_preds : ∀ (l : List (Pred × Bool)),chunk true 13 l.length (l.flatMap fun q => Pred.cells q.1) = encPreds (l.map (·.1))
  | [] => rfl
  | x :: r => by
    rw [List.length_cons,chunk,List.flatMap_cons,List.take_left' (cells_len x),List.drop_left' (cells_len x),chunk_preds r]; rfl
theorem call_pure' {g : G} {f : Nat} {args : List V} {fr : Fr} {st : St} {fi : FI} {v : V} {k : Option Nat} (hx : g.ext f = none) (hf : g.fn f = some fi) (hp : fi.pure = true) (ha : flats args = true)
    (h : ∃ st',EvF g f args ⟨[],0⟩ = some (.ret v k,st')) (hv : v.flat = true) : callStep g (EvF g) f args fr st = some (.ok (retE k v) fr st) := by
  obtain ⟨st',h⟩ := h
  unfold callStep
  simp only [hx,hf,hp,if_true,ha,h,hv]
end Go.Ab
namespace Go.Proofs.Ytdoobejjedpcgaa
open Go Go.Ab
set_option maxRecDepth 20000
noncomputable section
variable (fr : Fr) (st : St) (k : Kt)
theorem preds_cells (f : List Pred) : (encPreds f).flatMap V.cells = (f.map fun p => (p,false)).flatMap Pred.cellsO := by
  induction f with
  | nil => rfl
  | cons x r ih => simp only [encPreds,List.map_cons,List.flatMap_cons] at ih ⊢; rw [ih]; rfl
theorem map_fst (f : List Pred) : (f.map fun p => (p,false)).map (·.1) = f := by induction f with
  | nil => rfl
  | cons x r ih => simp only [List.map_cons,ih]
theorem sizes_vals (l : List Val) : sizesOk 5 (encVals l) = true := by
  induction l with
  | nil => rfl
  | cons x r ih => simp only [encVals,List.map_cons,sizesOk] at ih ⊢; rw [ih]; rfl
theorem sizes_preds (l : List Pred) : sizesOk 13 (encPreds l) = true := by
  induction l with
  | nil => rfl
  | cons x r ih => simp only [encPreds,List.map_cons,sizesOk] at ih ⊢; rw [ih]; rfl
def PSm (f : List Pred) : Prop := f.length ≤ 1000000 ∧ ∀ p ∈ f,p.name.length < 4611686018427387904 ∧ p.set.length * 48 ≤ 140737488355328
theorem PSm.ok {f : List Pred} (h : PSm f) : POk f := ⟨by have := h.1; omega,fun p hp => ⟨(h.2 p hp).1,by have := (h.2 p hp).2; omega⟩⟩
def fi50 : FI := { body := codeOf Try.f50,ntmps := 24,results := [.tmp 2],pers := [0,2,3,4,8,9],locals := [],pure := true,marks := [6,1000000] }
theorem fi45_eq : gS.fn 50 = some fi50 := by kernel_rfl
theorem st50 (a0 : V) : startFr fi50 [a0] = { ps := [(0,.val a0),(2,.any),(3,.any),(4,.any),(8,.any),(9,.any)],ts := [],lc := [] } := rfl
def b50 : Code := mini (codeOf Try.f50)
def c50_19 : Code := codeN b50 3275
def c50_17 : Code := .seq (codeN b50 2251) c50_19
def c50_20 : Code := codeN b50 971
def c50_15 : Code := .seq (.block 1 c50_17) c50_20
def c50_11 : Code := .seq (.cond (.tmp 10) .skip (.exit 0)) c50_15
def c50_9 : Code := .seq (codeN b50 139) c50_11
def c50_8 : Code := .loop c50_9
def c50_7 : Code := .block 0 c50_8
def c50_5 : Code := .seq (codeN b50 19) c50_7
def c50_21 : Code := .seq (codeN b50 23) .ret
def c50_4 : Code := .seq c50_5 c50_21
def c50_2 : Code := .seq (codeN b50 5) c50_4
def c50_0 : Code := .seq (codeN b50 2) c50_2
theorem E50 : (evK gS fi50 c50_19 fr st k = opsR gS fi50 [mv 12 3 29,
 mv 13 4 3,
 mv 14 3 29,
 mv 15 4 3,
 ixa 16 29 14 15 0,
 op1 17 (.fieldAddr 91 (.tmp 16) 4) 0,
 ld 18 89 17 89,
 op1 19 (.call { callee := (.builtin .append),args := #[(.const (.slice none 0 0)),(.tmp 18)],argTypes := #[89,89] }) 89,
 ixa 20 29 12 13 0,
 op1 21 (.fieldAddr 91 (.tmp 20) 4) 0,
 sto 89 21 19] fr st k) ∧
 (evK gS fi50 c50_17 fr st k = opsR gS fi50 [mv 11 9 3,
 asn 4 11 3] fr st (.seq c50_19 k)) ∧
 (evK gS fi50 c50_20 fr st k = opsR gS fi50 [op1 22 (.binOp .add 3 (.tmp 9) (.const (.int .i64 1)) 3) 3,
 mv 9 22 3] fr st k) ∧
 evK gS fi50 c50_15 fr st k = evK gS fi50 c50_17 fr st (.blk 1 (.seq c50_20 k)) ∧
 evK gS fi50 c50_11 fr st k = condK gS fi50 (fr.op (.tmp 10)).bool? .skip (.exit 0) fr st (.seq c50_15 k) ∧
 evK gS fi50 c50_9 fr st k = opsR gS fi50 [bop 10 .lss 3 9 8 3 0] fr st (.seq c50_11 k) ∧
 evK gS fi50 c50_7 fr st k = evK gS fi50 c50_8 fr st (.blk 0 k) ∧
 (evK gS fi50 c50_5 fr st k = opsR gS fi50 [mv 7 3 29,
 len1 8 7 29 3,
 op1 9 (.move (.const (.int .i64 0))) 3] fr st (.seq c50_7 k)) ∧
 (evK gS fi50 c50_21 fr st k = opsR gS fi50 [mv 23 3 29,
 asn 2 23 29] fr st (.seq .ret k)) ∧
 evK gS fi50 c50_4 fr st k = evK gS fi50 c50_5 fr st (.seq c50_21 k) ∧
 (evK gS fi50 c50_2 fr st k = opsR gS fi50 [mv 5 0 29,
 op1 6 (.call { callee := (.builtin .append),args := #[(.const (.slice none 0 0)),(.tmp 5)],argTypes := #[29,29] }) 29,
 asn 3 6 29] fr st (.seq c50_4 k)) ∧
 evK gS fi50 c50_0 fr st k = opsR gS fi50 [op1 2 (.assign (.const (.slice none 0 0))) 29] fr st (.seq c50_2 k) := ⟨evK_r 5 (by kernel_rfl),evK_rs 4 rfl (by kernel_rfl),evK_r 6 (by kernel_rfl),rfl,rfl,evK_rs 3 rfl (by kernel_rfl),rfl,evK_rs 2 rfl (by kernel_rfl),evK_rs 7 rfl (by kernel_rfl),rfl,evK_rs 1 rfl (by kernel_rfl),evK_rs 0 rfl (by kernel_rfl)⟩
theorem m50 : mini fi50.body = c50_0 := by kernel_rfl
theorem n50_8 (fr : Fr) (st : St) (k : Kt) : nextK gS fi50 (.loop c50_9 k) .normal fr st = evK gS fi50 c50_8 fr st k := rfl
set_option maxHeartbeats 8000000 in
theorem L50_8 (f : List Pred) (h_f : PSm f) (hne : f ≠ []) (st : St) (hst : st.wp ≤ st.objs.length) : ∀ (n i : Nat) (l : List (Pred × Bool)) (e0 e4 : E) (T : List (Nat × E)) (X : List (Nat × List V)) (ht0 : e0.Tame) (ht4 : e4.Tame),l.map (·.1) = f → i ≤ f.length → f.length - i = n →
    evK gS fi50 c50_8 { ps := [(0,e0),(2,.own 0 []),(3,.val (.sref false 13 st.objs.length 0 f.length)),(4,e4),(8,.val (.int .i64 f.length)),(9,.val (.int .i64 i))],ts := T,lc := X } (nw st 0 (l.flatMap Pred.cellsO)) (.blk 0 (.seq c50_21 .nil)) = some (.ret (.slice (encPreds f)) none,dd st 1) := by
  intro n
  have hm : fi50.marks = [6,1000000] := rfl
  have hl : fi50.locals = [] := rfl
  have hr : fi50.results = [.tmp 2] := rfl
  have hfl := h_f.1
  induction n with
  | zero =>
    intro i l e0 e4 T X ht0 ht4 hl hi hn
    obtain rfl : i = f.length := by omega
    have hll : l.length = f.length := by rw [← hl]; simp
    have hfz := frz_row (st := nw st 0 (l.flatMap Pred.cellsO)) 5 st.objs.length 13 (by omega) Pred.cellsO (fun q => Pred.cells q.1) cellsO_len cells_len cellsO_strip cells_one cells_flats l (by intro e; subst e; exact hne hl.symm) (nw_obj st 0 _) (nw_kill hst 0 _)
    rw [hll,show Nat.blt 1 13 = true from rfl,← hll,chunk_preds,hl,hll] at hfz
    refine evK_loop c50_9 _ _ _ _ rfl ?_
    simp [ht0,ht4,hfz,-Int.not_le,-Int.not_lt,-Nat.not_le,-Nat.not_lt,ty3,ty29,ty89,ty91,hm,hl,hr,E50,n50_8]
  | succ n ih =>
    intro i l e0 e4 T X ht0 ht4 hl hi hn
    have hll : l.length = f.length := by rw [← hl]; simp
    obtain ⟨q,hq⟩ : ∃ q,l[i]? = some q := ⟨l[i]'(by omega),List.getElem?_eq_getElem (by omega)⟩
    have hlt : (i : Int) < (f.length : Int) := by omega
    have hlt2 : i < f.length := by omega
    have hw : IntKind.wrap .i64 ((i : Int) + 1) = ((i + 1 : Nat) : Int) := by rw [wrap64 (by omega) (by omega)]; omega
    have hqm : q.1 ∈ f := by rw [← hl]; exact List.mem_map.2 ⟨q,List.mem_of_getElem? hq,rfl⟩
    have hqs := (h_f.2 q.1 hqm).2
    have hqs2 : q.1.set.length ≤ 140737488355328 := by omega
    have hob := nw_obj st 0 (l.flatMap Pred.cellsO)
    have hget := row_get Pred.cellsO 13 cellsO_len hq (j := 12) (by omega)
    have hspl := row_splice Pred.cellsO 13 cellsO_len (j := 12) (y := (q.1,true)) (vs := [.osl 5 (encVals q.1.set)]) hq rfl
    have hset := nw_set hst 0 (l.flatMap Pred.cellsO) ((l.set i (q.1,true)).flatMap Pred.cellsO)
    have hl2 : (l.set i (q.1,true)).map (·.1) = f := by
      rw [List.map_set,hl]
      apply List.ext_getElem?
      intro j
      rw [List.getElem?_set]
      split
      · rename_i hj; subst hj
        rw [← hl,List.getElem?_map,hq]
        rfl
      · rfl
    have IH := fun e0 e4 T X ht0 ht4 => ih (i + 1) (l.set i (q.1,true)) e0 e4 T X ht0 ht4 hl2 (by omega) (by omega)
    rw [Nat.add_zero] at hob hset
    have hsz := sizes_vals q.1.set
    obtain ⟨p,b⟩ := q
    refine evK_loop c50_9 _ _ _ _ rfl ?_
    simp only [Pred.cellsO] at hget
    cases b with
    | true =>
      simp only [List.getElem?_cons_succ,List.getElem?_cons_zero,if_true] at hget
      simp [-Int.natCast_add,-St.obj,-St.set,-splice,ht0,ht4,hlt,hlt2,hw,hob,hget,hspl,hset,hqs,hqs2,hsz,IH,-Int.not_le,-Int.not_lt,-Nat.not_le,-Nat.not_lt,ty3,ty29,ty89,ty91,hm,hl,hr,E50,n50_8]
    | false =>
      simp only [List.getElem?_cons_succ,List.getElem?_cons_zero,Bool.false_eq_true,if_false] at hget
      simp [-Int.natCast_add,-St.obj,-St.set,-splice,ht0,ht4,hlt,hlt2,hw,hob,hget,hspl,hset,hqs,hqs2,hsz,IH,-Int.not_le,-Int.not_lt,-Nat.not_le,-Nat.not_lt,ty3,ty29,ty89,ty91,hm,hl,hr,E50,n50_8]
set_option maxHeartbeats 8000000 in
theorem c50 (f : List Pred) (h_f : PSm f) (st : St) (hst : st.wp ≤ st.objs.length) : ∃ st',EvF gS 50 [.slice (encPreds f)] st = some (.ret (.slice (encPreds f)) none,st') := by
  have hm : fi50.marks = [6,1000000] := rfl
  have hl : fi50.locals = [] := rfl
  have hr : fi50.results = [.tmp 2] := rfl
  by_cases hne : f = []
  · refine ⟨st,?_⟩
    refine EvF_start fi45_eq (fun x h => by cases h) m50 ?_
    rw [st50]
    subst hne
    have hz : ∀ st,frz 6 st (.sref true 0 0 0 0) = some (.slice [],st) := fun st => frz_nil 5 st
    simp [markStep,markAppend,elemsAt,encPreds,-Int.not_le,-Int.not_lt,-Nat.not_le,-Nat.not_lt,ty3,ty29,ty89,ty91,hm,hl,hr,E50,n50_8]
    refine evK_loop c50_9 _ _ _ _ rfl ?_
    simp [hz,-Int.not_le,-Int.not_lt,-Nat.not_le,-Nat.not_lt,ty3,ty29,ty89,ty91,hm,hl,hr,E50,n50_8]
  · refine ⟨dd st 1,?_⟩
    refine EvF_start fi45_eq (fun x h => by cases h) m50 ?_
    rw [st50]
    have hfl := h_f.1
    have hfe : (encPreds f).isEmpty = false := by cases f with | nil => exact absurd rfl hne | cons _ _ => rfl
    have hpc := preds_cells f
    have hsp := sizes_preds f
    have h1 : f.length * 144 ≤ 140737488355328 := by omega
    have h2 : f.length ≤ 140737488355328 := by omega
    have hnr := fun fr k len cs => newRef_0 st fr k len cs
    have L0 := fun e0 e4 T X ht0 ht4 => L50_8 f h_f hne st hst f.length 0 (f.map fun p => (p,false)) e0 e4 T X ht0 ht4 (map_fst f) (Nat.zero_le _) rfl
    simp only [show ((0 : Nat) : Int) = 0 from rfl] at L0
    simp [-St.obj,-St.set,hfe,hpc,hsp,h1,h2,hnr,L0,markStep,markAppend,elemsAt,hne,-Int.not_le,-Int.not_lt,-Nat.not_le,-Nat.not_lt,ty3,ty29,ty89,ty91,hm,hl,hr,E50,n50_8]
    all_goals first | done | skip
end
end Go.Proofs.Ytdoobejjedpcgaa
namespace Go.Ab
open Go
section
variable {α : Type}
theorem row_drop (c : α → List V) (k : Nat) (hc : ∀ x,(c x).length = k) : ∀ (l : List α) (i : Nat),(l.flatMap c).drop (i * k) = (l.drop i).flatMap c
  | [],i => by simp
  | x :: r,0 => by simp
  | x :: r,i + 1 => by
    rw [List.flatMap_cons,List.drop_succ_cons,← row_drop c k hc r i,List.drop_append,hc,List.drop_of_length_le (by rw [hc,Nat.succ_mul]; omega),List.nil_append,Nat.succ_mul,Nat.add_sub_cancel]
theorem row_take (c : α → List V) (k : Nat) (hc : ∀ x,(c x).length = k) : ∀ (l : List α) (i : Nat),(l.flatMap c).take (i * k) = (l.take i).flatMap c
  | [],i => by simp
  | x :: r,0 => by simp
  | x :: r,i + 1 => by
    rw [List.flatMap_cons,List.take_succ_cons,List.flatMap_cons,← row_take c k hc r i,List.take_append,hc,List.take_of_length_le (by rw [hc,Nat.succ_mul]; omega),Nat.succ_mul,Nat.add_sub_cancel]
theorem row_splices (c : α → List V) (k : Nat) (hc : ∀ x,(c x).length = k) (l m : List α) (i : Nat) (h : i + m.length ≤ l.length) : splice (l.flatMap c) (i * k) (m.flatMap c) = some ((l.take i ++ m ++ l.drop (i + m.length)).flatMap c) := by
  unfold splice
  rw [row_len c k hc,row_len c k hc,if_pos (by rw [← Nat.add_mul]; exact Nat.mul_le_mul_right k h),row_take c k hc,← Nat.add_mul,row_drop c k hc,List.flatMap_append,List.flatMap_append]
end
def N4 : List (List UInt8) := [[97],[98],[99],[108,111,110,103]]
def nameV (l : List Int) (a j : Nat) : List UInt8 := N4.getD ((fd l a j 12).toNat / 3 % 4) []
def A5 : List (List UInt8 × Int) := [([97],0),([98],0),([99],0),([100],1),([108,111,110,103],1)]
def attrsG (l : List Int) (a : Nat) : List (List UInt8 × Int) → Nat → List Attr × Nat
  | [],j => ([],j)
  | (nm,q) :: r,j => if fd l a j 3 > q then (⟨nm,valueV l a (j + 1)⟩ :: (attrsG l a r (j + 3)).1,(attrsG l a r (j + 3)).2) else attrsG l a r (j + 1)
def attrsV (l : List Int) (a j : Nat) : List Attr × Nat := attrsG l a A5 j
def insN (f : List Pred) (nm : List UInt8) : Nat → Nat
  | 0 => 0
  | k + 1 => if sgt ((f[k]?).getD ⟨[],0,vzero,vzero,[]⟩).name nm then insN f nm k else k + 1
theorem insN_le (f : List Pred) (nm : List UInt8) : ∀ k,insN f nm k ≤ k
  | 0 => Nat.le_refl _
  | k + 1 => by
    unfold insN; split
    · exact Nat.le_succ_of_le (insN_le f nm k)
    · exact Nat.le_refl _
def insP (f : List Pred) (p : Pred) (nm : List UInt8) : List Pred := f.take (insN f nm f.length) ++ p :: f.drop (insN f nm f.length)
theorem insP_length (f : List Pred) (p : Pred) (nm : List UInt8) : (insP f p nm).length = f.length + 1 := by
  have := insN_le f nm f.length
  unfold insP; simp; omega
def filterG (l : List Int) (a : Nat) : Nat → Nat → Nat → List Pred → List Pred × Nat × Nat
  | 0,j,d,f => (f,j,d)
  | n + 1,j,d,f => filterG l a n (j + 1 + (predV l a (j + 1) (nameV l a j)).2) (d + (predV l a (j + 1) (nameV l a j)).1.set.length + 1) (insP f (predV l a (j + 1) (nameV l a j)).1 (nameV l a j))
def filterV (l : List Int) (a j : Nat) : List Pred × Nat × Nat := filterG l a (fd l a j 4).toNat (j + 1) 0 []
def pzero : Pred := ⟨[],0,vzero,vzero,[]⟩
theorem pcells_len (p : Pred) : (Pred.cells p).length = 13 := rfl
theorem pcells_one (p : Pred) : (Pred.cells p).all V.one = true := rfl
theorem pcells_flats (p : Pred) : flats (Pred.cells p) = true := by simp [flats,V.flat]
theorem pcells_strip (p : Pred) : (Pred.cells p).map V.strip1 = Pred.cells p := rfl
theorem chunk_preds1 (l : List Pred) : chunk true 13 l.length (l.flatMap Pred.cells) = encPreds l := chunk_enc Pred.cells 13 (by omega) (fun _ => rfl) l
theorem enc_cells (l : List Pred) : (encPreds l).flatMap V.cells = l.flatMap Pred.cells := by
  induction l with
  | nil => rfl
  | cons x r ih => simp only [encPreds,List.map_cons,List.flatMap_cons] at ih ⊢; rw [ih]; rfl
theorem elems_row {st : St} {id : Nat} {l : List Pred} (ho : St.obj st id = some (l.flatMap Pred.cells)) (f : Bool) {i : Nat} (hi : i ≤ l.length) :
    elemsAt true 13 st (.val (.sref f 13 id (i * 13) (l.length - i))) = some (encPreds (l.drop i)) := by
  unfold elemsAt
  simp only [ho,row_len Pred.cells 13 pcells_len,true_and]
  have h1 : i * 13 + (l.length - i) * 13 ≤ l.length * 13 := by omega
  have h2 : ((l.flatMap Pred.cells).map V.strip1).all V.one = true := by rw [row_strip _ _ pcells_strip]; exact row_one _ pcells_one l
  have h3 : (true || (13 : Nat) == 1) = true := rfl
  by_cases hz : l.length - i = 0
  · rw [if_pos hz,List.drop_of_length_le (by omega)]; rfl
  rw [if_neg hz,if_pos ⟨h1,h3,h2⟩,row_drop Pred.cells 13 pcells_len,List.take_of_length_le (by rw [row_len Pred.cells 13 pcells_len]; simp),row_strip _ _ pcells_strip]
  have := chunk_preds1 (l.drop i)
  rw [List.length_drop] at this
  rw [this]
theorem frz_preds {st st1 : St} (n id : Nat) (l : List Pred) (hl : l ≠ []) (ho : St.obj st id = some (l.flatMap Pred.cells)) (hs : St.set st id [] = some st1) : frz (n + 1) st (.sref false 13 id 0 l.length) = some (.slice (encPreds l),st1) := by
  have := frz_row n id 13 (by omega) Pred.cells Pred.cells pcells_len pcells_len pcells_strip pcells_one pcells_flats l hl ho hs
  rw [show Nat.blt 1 13 = true from rfl,chunk_preds1] at this
  exact this
theorem obj_mid {st : St} {id : Nat} (h : FeedOk st id) (m k : Nat) (cs : List V) (l : List Int) (a : Nat) : St.obj (setF (dd (nw st m cs) k) id l a) (st.objs.length + m) = some cs := by
  unfold St.obj setF
  show ((dd (nw st m cs) k).objs.set id _)[_]? = _
  rw [List.getElem?_set_ne (by have := h.1; omega)]
  unfold dd
  show ((nw st m cs).objs ++ _)[_]? = _
  rw [List.getElem?_append_left (by rw [gr_len]; omega),gr_obj]
theorem dd_nw_kill (st : St) (m k : Nat) (cs : List V) (h : st.wp ≤ st.objs.length) : St.set (dd (nw st m cs) k) (st.objs.length + m) [] = some (dd st (m + 1 + k)) := by
  unfold St.set
  rw [if_pos (by rw [dd_wp,gr_wp]; omega)]
  unfold dd nw
  simp only [Option.some.injEq,St.mk.injEq,and_true]
  rw [List.append_assoc,List.set_append_right _ _ (by omega),Nat.add_sub_cancel_left,List.append_assoc,List.set_append_right _ _ (by simp),List.length_replicate,Nat.sub_self]
  simp only [List.singleton_append,List.set_cons_zero]
  rw [show m + 1 + k = m + (1 + k) by omega,← List.replicate_append_replicate,← List.replicate_append_replicate (n := 1)]
  rfl
theorem set_mid {st : St} {id : Nat} (h : FeedOk st id) (m k : Nat) (cs : List V) (l : List Int) (a : Nat) : St.set (setF (dd (nw st m cs) k) id l a) (st.objs.length + m) [] = some (setF (dd st (m + 1 + k)) id l a) := by
  have h1 := h.1
  have h2 := h.2
  have hk := dd_nw_kill st m k cs (by omega)
  unfold St.set at hk ⊢
  rw [if_pos (by rw [dd_wp,gr_wp]; omega)] at hk
  rw [if_pos (by rw [setF_wp,dd_wp,gr_wp]; omega)]
  have hk2 := Option.some.inj hk
  congr 1
  rw [← hk2]
  unfold setF
  simp only [St.mk.injEq,and_true]
  rw [List.set_comm _ _ (by omega)]
end Go.Ab
