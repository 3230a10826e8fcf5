/- What each quiet operation does: conversions, loads, lengths. -/
import Derived.Test.YtiiahehclbmodaaAbS4
namespace Go.Ab
open Go
set_option linter.unusedVariables false
set_option linter.unusedSimpArgs false
set_option linter.unnecessarySimpa false

variable {P : Program} {d n : Nat} {κ : K} {w : World} {lam : Lam} {fr : Fr} {st : St} {a : Act} {o : Oper}

theorem RepAt.reps {b : Nat} : ∀ {o : Nat} {xs : List V}, RepAt κ w b o xs → ∃ vs, Reps κ w vs xs ∧ ∀ j v, vs[j]? = some v → Imm κ w b (o + j) v
  | _, [], _ => ⟨[], .nil, fun j v h => by simp at h⟩
  | o, x :: xs, h => by
    cases h with
    | cons hi hr r =>
      obtain ⟨vs, h1, h2⟩ := r.reps
      refine ⟨_ :: vs, .cons hr h1, fun j v hv => ?_⟩
      cases j with
      | zero => simp at hv; subst hv; exact hi
      | succ j => simp at hv; have := h2 j v hv; rwa [Nat.add_assoc, Nat.add_comm 1 j] at this

theorem load_reps {b o : Nat} {xs : List V} (h : RepAt κ w b o xs) : ∃ vs, Reps κ w vs xs ∧ (loadCells (at_ b o) xs.length).run P w = .ok vs.toArray w := by
  obtain ⟨vs, h1, h2⟩ := h.reps
  refine ⟨vs, h1, ?_⟩
  rw [← h1.length]
  exact run_loadCells_list w (at_ b o) vs fun j v hv => by rw [addr_add]; exact (h2 j v hv).1

theorem bytes_vals : ∀ {xs : List V} {s : List UInt8} {vs : List Value}, bytesOf xs = some s → Reps κ w vs xs →
    ∃ ns : List Int, vs = ns.map (Value.int .u8) ∧ s = ns.map fun n => UInt8.ofNat n.toNat
  | [], s, _, h, .nil => by simp only [bytesOf, Option.some.injEq] at h; subst h; exact ⟨[], rfl, rfl⟩
  | x :: xs, s, _, h, .cons hr r => by
    unfold bytesOf at h
    split at h
    · rename_i heq; cases heq
    · rename_i m r' heq
      cases heq
      cases hb : bytesOf xs with
      | none => rw [hb] at h; cases h
      | some s' =>
        rw [hb] at h; simp only [Option.map_some, Option.some.injEq] at h; subst h
        obtain ⟨ns, h1, h2⟩ := bytes_vals hb r
        cases hr
        exact ⟨m :: ns, by simp [h1], by simp [h2]⟩
    · cases h

theorem push_all : ∀ (ns : List Int) (s : ByteArray), (ns.foldl (fun r n => r.push (UInt8.ofNat n.toNat)) s).data.toList = s.data.toList ++ ns.map fun n => UInt8.ofNat n.toNat
  | [], s => by simp
  | n :: ns, s => by rw [List.foldl_cons, push_all ns]; simp [ByteArray.push]

theorem bytes_cells : ∀ {xs : List V} {s : List UInt8}, bytesOf xs = some s → xs.flatMap V.cells = xs
  | [], _, _ => rfl
  | x :: xs, s, h => by
    unfold bytesOf at h
    split at h
    · rename_i heq; cases heq
    · rename_i m r' heq
      cases heq
      cases hb : bytesOf xs with
      | none => rw [hb] at h; cases h
      | some s' => rw [List.flatMap_cons, bytes_cells hb]; rfl
    · cases h

/-- Bytes as a text. -/
theorem bytesToString_ok {v : Value} {xs : List V} {s : List UInt8} (h : Rep κ w v (.slice xs)) (hb : bytesOf xs = some s) : ∃ r, (Conv.bytesToString v).run P w = .ok r w ∧ Rep κ w r (.str s) := by
  cases h with
  | slice0 p cap =>
    simp only [bytesOf, Option.some.injEq] at hb; subst hb
    cases p with
    | none => exact ⟨.string .empty, rfl, .str _⟩
    | some q => exact ⟨.string .empty, run_bytesToString w q 0 cap [] rfl, .str _⟩
  | slice hc hk hat =>
    rw [bytes_cells hb] at hat
    obtain ⟨vs, h1, h2⟩ := load_reps (P := P) hat
    obtain ⟨ns, rfl, rfl⟩ := bytes_vals hb h1
    refine ⟨_, run_bytesToString w _ _ _ ns h2, ?_⟩
    have := push_all ns ByteArray.empty
    simp only [ByteArray.data_empty, List.nil_append] at this
    rw [← this]; exact .str _
end Go.Ab
