/- Structs against structs; values, slices that are put together. -/
import Derived.Test.YtiiahehclbmodaaAbU
import Derived.Laws.Tables
namespace Go.Ab
open Go
set_option linter.unusedVariables false
set_option linter.unusedSimpArgs false
set_option linter.unnecessarySimpa false

variable {P : Program} {d n : Nat} {κ : K} {w : World} {lam : Lam} {fr : Fr} {st : St} {a : Act} {o : Oper}

theorem eq_one {u v : Value} {x y : V} {b : Bool} {k : TK} {de : TypeDesc} (hu : Rep κ w u x) (hv : Rep κ w v y) (h : eqScalar k x y = some b) {t : TypeId}
    (ht : P.underlying t = some de) (hk : plainTK (some de) = some k) (D : Nat) : (Op.equalIn (D + 1) t u v).run P w = .ok b w := by
  unfold eqScalar at h
  split at h
  · cases h; cases hu; cases hv
    cases de <;> simp [plainTK] at hk
    simp [Op.equalIn, run_underlying ht]
  · split at h
    · rename_i hkk; subst hkk
      cases h; cases hu; cases hv
      cases de <;> simp [plainTK] at hk
      simp [Op.equalIn, run_underlying ht]
    · cases h
  · split at h
    · rename_i hkk; subst hkk
      cases h; cases hu; cases hv
      cases de <;> simp [plainTK] at hk
      simp [Op.equalIn, run_underlying ht]
    · cases h
  · cases h
    cases de <;> simp [plainTK] at hk
    obtain ⟨s, rfl, rfl⟩ := hu.str_inv
    obtain ⟨s', rfl, rfl⟩ := hv.str_inv
    rw [run_equalIn_string w D t s s' ht, toList_data, toList_data]
  · cases h

theorem plain_notAgg {de : TypeDesc} {k : TK} (h : plainTK (some de) = some k) : isAggT de = false := by
  cases de <;> first | rfl | cases h

theorem eq_fields {xs ys : Array Value} {as bs : List V} (hx : Reps κ w xs.toList as) (hy : Reps κ w ys.toList bs) (D : Nat) : ∀ (fs : List Field) (j : Nat) (ks : List TK) (b : Bool),
    plainFields P j fs = some ks → eqCells ks (as.drop j) (bs.drop j) = some b → (Op.eqFields (D + 1) xs ys fs).run P w = .ok b w
  | [], j, ks, b, hf, h => by
    simp only [plainFields, Option.some.injEq] at hf; subst hf
    unfold eqCells at h
    split at h
    · cases h; rfl
    · rename_i heq _ _; cases heq
    · cases h
  | f :: r, j, ks, b, hf, h => by
    unfold plainFields at hf
    split at hf
    · rename_i hn
      simp only [Bool.and_eq_true, bne_iff_ne, ne_eq, beq_iff_eq] at hn
      split at hf
      · rename_i k l hk hl
        cases hf
        unfold eqCells at h
        split at h
        · rename_i heq _ _; cases heq
        · rename_i t q x ra y sb heq1 heq2 heq3
          cases heq1
          cases hde : undOf P.toTables f.type with
          | none => rw [hde] at hk; cases hk
          | some de =>
            rw [hde] at hk
            have hund := underlying_of hde
            have hdx : as[j]? = some x := by
              have := congrArg (fun l => l[0]?) heq2; simpa using this
            have hdy : bs[j]? = some y := by
              have := congrArg (fun l => l[0]?) heq3; simpa using this
            have hrx : ra = as.drop (j + 1) := by
              have := congrArg List.tail heq2; simpa using this.symm
            have hry : sb = bs.drop (j + 1) := by
              have := congrArg List.tail heq3; simpa using this.symm
            split at h
            · rename_i b1 b2 h1 h2
              cases h
              obtain ⟨u, hu, hru⟩ := hx.get j x hdx
              obtain ⟨v, hv, hrv⟩ := hy.get j y hdy
              have e1 := eq_one (P := P) hru hrv h1 hund hk D
              subst hrx hry
              have ih := eq_fields hx hy D r (j + 1) l b2 hl h2
              have hpu : (part f.type xs f.offset).run P w = .ok u w := by
                unfold part
                simp only [Sem.run_bind, isAgg_run hund, plain_notAgg hk, Result.andThen_ok, Bool.false_eq_true, if_false, hn.2]
                rw [← Array.getElem?_toList, hu]; rfl
              have hpv : (part f.type ys f.offset).run P w = .ok v w := by
                unfold part
                simp only [Sem.run_bind, isAgg_run hund, plain_notAgg hk, Result.andThen_ok, Bool.false_eq_true, if_false, hn.2]
                rw [← Array.getElem?_toList, hv]; rfl
              unfold Op.eqFields
              simp only [ne_eq, hn.1, not_false_eq_true, if_true, Sem.run_bind, hpu, hpv, e1, Result.andThen_ok]
              cases b1
              · rfl
              · simpa using ih
            · cases h
        · cases h
      · cases hf
    · cases hf

theorem mkEq_ok {t : Nat} {ks : List TK} (h : mkEq P t = some ks) : ∃ fs, P.underlying t = some (.struct fs) ∧ P.stoodInHeld t = false ∧ P.eqGuardType P.depth t = false ∧ plainFields P 0 fs.toList = some ks := by
  unfold mkEq at h
  split at h
  · rename_i fs hf
    split at h
    · rename_i hg
      simp only [Bool.and_eq_true, Bool.not_eq_true'] at hg
      exact ⟨fs, underlying_of hf, hg.1, hg.2, h⟩
    · cases h
  · cases h

theorem run_agg_v {t : Nat} {ks : List TK} (h : mkEq P t = some ks) (op : BinOp) {xs ys : List V} {u v : Value} (hu : Rep κ w u (.agg xs)) (hv : Rep κ w v (.agg ys)) {z : V} (hz : binAgg ks op xs ys = some z) (X Y : Operand) :
    ∃ r, (do eqGuard op t X Y u v; binOp op t u v : Sem Value).run P w = .ok r w ∧ Rep κ w r z := by
  obtain ⟨fs, h1, h2, h3, h4⟩ := mkEq_ok h
  obtain ⟨as, rfl, ha⟩ := hu.agg_inv
  obtain ⟨bs, rfl, hb⟩ := hv.agg_inv
  have hfs : P.fieldsOf t = fs := by simp [Program.fieldsOf, h1]
  have heq : ∀ b, eqCells ks xs ys = some b → (Op.equalIn 10000 t (.agg as) (.agg bs)).run P w = .ok b w := by
    intro b hb'
    have := eq_fields (P := P) ha hb 9998 fs.toList 0 ks b h4 (by simpa using hb')
    rw [show (10000 : Nat) = 9999 + 1 from rfl, run_equalIn_struct w 9999 t as bs (by rw [hfs]; exact h1) h2, hfs]
    exact this
  unfold binAgg at hz
  split at hz
  · cases he : eqCells ks xs ys with
    | none => rw [he] at hz; cases hz
    | some b =>
      rw [he] at hz; simp only [Option.map_some, Option.some.injEq] at hz; subst hz
      refine ⟨.bool b, ?_, .bool _⟩
      rw [Sem.run_bind, run_eqGuard_agg w .eql t X Y as bs h3, Result.andThen_ok, run_eql_struct, heq b he]; rfl
  · cases he : eqCells ks xs ys with
    | none => rw [he] at hz; cases hz
    | some b =>
      rw [he] at hz; simp only [Option.map_some, Option.some.injEq] at hz; subst hz
      refine ⟨.bool (!b), ?_, .bool _⟩
      rw [Sem.run_bind, run_eqGuard_agg w .neq t X Y as bs h3, Result.andThen_ok, run_neq_struct, heq b he]; rfl
  · cases hz
end Go.Ab
