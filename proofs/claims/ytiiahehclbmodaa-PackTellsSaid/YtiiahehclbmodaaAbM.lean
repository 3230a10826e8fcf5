/- New blocks; cells that are written. -/
import Derived.Test.YtiiahehclbmodaaAbS5
import Derived.Laws.MakeOwn
import Derived.Laws.IdiomCopy
namespace Go.Ab
open Go
set_option linter.unusedVariables false
set_option linter.unusedSimpArgs false
set_option linter.unnecessarySimpa false

variable {P : Program} {d n : Nat} {κ : K} {w : World} {lam : Lam} {fr : Fr} {st : St} {a : Act} {o : Oper}

/-- A new block, whose cells have these owners. -/
def K.new (κ : K) (b : Nat) (lab : Nat → Option Ow) : K := { κ with own := fun b' o => if b' = b then lab o else κ.own b' o }

theorem Good.lt (g : Good κ w) {b o : Nat} {L : Ow} (h : κ.own b o = some L) : b < w.heap.size := by
  obtain ⟨⟨v, hv⟩, _⟩ := g b o L h
  exact World.block_lt_of_cell? w _ hv
theorem Imm.lt {b o : Nat} {v : Value} (h : Imm κ w b o v) : b < w.heap.size := World.block_lt_of_cell? w _ h.1

theorem pres_new (S : Ow → Prop) (g : Good κ w) (ob : Obj) (lab : Nat → Option Ow) : Pres S κ w (κ.new w.heap.size lab) (w.alloc ob) where
  os := rfl
  tape := rfl
  out := rfl
  size := by simp
  blk := fun _ _ h => h
  imm := fun b o v h => by
    have := h.lt
    exact ⟨(World.cell?_alloc_lt w _ _ this).trans h.1, by simp only [K.new]; rw [if_neg (by omega)]; exact h.2⟩
  lab := fun b o L h _ => by
    have := g.lt h
    exact ⟨by simp only [K.new]; rw [if_neg (by omega)]; exact h, World.cell?_alloc_lt w _ _ this⟩
  sz := fun b j h => by rw [World.cell?_alloc_lt w _ _ h]
  free := fun b hb h => by
    refine ⟨?_, fun o => by simp only [K.new]; rw [if_neg (by omega)]; exact h o⟩
    show (w.heap.push ob)[b]? = _
    rw [Array.getElem?_push, if_neg (by omega)]

theorem cell_new (c : Array Value) (t : TypeId) (i : Nat) : (w.alloc (.cells c t)).cell? (at_ w.heap.size i) = c[i]? := World.cell?_alloc_new w c t i

theorem good_new (g : Good κ w) (c : Array Value) (t : TypeId) {lab : Nat → Option Ow} (h : ∀ o L, lab o = some L → o < c.size) : Good (κ.new w.heap.size lab) (w.alloc (.cells c t)) := by
  intro b j L hL
  simp only [K.new] at hL
  split at hL
  · rename_i hb; subst hb
    have := h j L hL
    exact ⟨⟨c[j], by rw [cell_new]; simp [this]⟩, World.frozen?_alloc_new w c t j⟩
  · obtain ⟨⟨v, hv⟩, hf⟩ := g b j L hL
    have hlt := g.lt hL
    refine ⟨⟨v, (World.cell?_alloc_lt w _ _ hlt).trans hv⟩, ?_⟩
    rw [World.frozen?_alloc_old w _ _ (by show b ≠ _; omega)]; exact hf

theorem R.new (r : R d n κ w lam fr st a) (c : Array Value) (t : TypeId) {lab : Nat → Option Ow} (h : ∀ o L, lab o = some L → o < c.size) :
    R d n (κ.new w.heap.size lab) (w.alloc (.cells c t)) lam fr st a :=
  r.pres (pres_new (fun _ => True) r.sim.good _ _) (fun _ _ => trivial) (good_new r.sim.good c t h) r.sim.fresh

/-- The cells at a new block's begin are for reading. -/
theorem new_reads (g : Good κ w) {vs : List Value} {xs : List V} (hr : Reps κ w vs xs) (c : Array Value) (t : TypeId) {lab : Nat → Option Ow} (hc : ∀ (j : Nat) v, vs[j]? = some v → c[j]? = some v)
    (hl : ∀ j, j < vs.length → lab j = none) : RepAt (κ.new w.heap.size lab) (w.alloc (.cells c t)) w.heap.size 0 xs := by
  refine RepAt.of_get fun j x hx => ?_
  obtain ⟨v, hv, hrv⟩ := hr.get j x hx
  refine ⟨v, ⟨?_, ?_⟩, hrv.pres (pres_new (fun _ => True) g (.cells c t) lab)⟩
  · rw [Nat.zero_add, cell_new]; exact hc j v hv
  · rw [Nat.zero_add]; simp only [K.new, if_true]; exact hl j (List.getElem?_eq_some_iff.1 hv).1

/-- A slice in a new block: what it holds is for reading, its spare room is on its way. -/
theorem slice_new (g : Good κ w) {vs : List Value} {xs : List V} {k cap : Nat} (hk : 0 < k) (hs : ∀ x ∈ xs, x.cells.length = k) (hr : Reps κ w vs (xs.flatMap V.cells)) (c : Array Value) (t : TypeId)
    (hc : ∀ (j : Nat) v, vs[j]? = some v → c[j]? = some v) (hsize : c.size = cap * k) (hcap : xs.length ≤ cap) :
    let κ' := κ.new w.heap.size fun o => if xs.length * k ≤ o ∧ o < c.size then some .fly else none
    let w' := w.alloc (.cells c t)
    Good κ' w' ∧ Rep κ' w' (.slice (some (at_ w.heap.size 0)) xs.length cap) (.slice xs) ∧ Spare κ' .fly k (.slice (some (at_ w.heap.size 0)) xs.length cap) := by
  intro κ' w'
  have hlen : vs.length = xs.length * k := by rw [hr.length, flat_length xs k hs]
  refine ⟨good_new g c t (fun o L h => by split at h; · rename_i h1; exact h1.2
                                          · cases h), ?_, .inr ⟨hk, hcap, _, _, rfl, fun j h1 h2 => ?_⟩⟩
  · by_cases hx : xs = []
    · subst hx; exact .slice0 _ _
    · exact .slice hcap hs (new_reads g hr c t hc fun j hj => by rw [if_neg (by omega)])
  · simp only [κ', K.new, if_true]
    rw [if_pos ⟨by omega, by omega⟩]

theorem RepV.own_of {k : Nat} {xs : List V} {v : Value} (h1 : Rep κ w v (.slice xs)) (h2 : Spare κ .fly k v) : RepV κ w lam fr st a.tmps v (.own k xs) := ⟨h1, h2⟩

/-! ### cells that are written -/
theorem setCells_size (b : Nat) : ∀ (vs : List Value) (o : Nat) (w : World), (w.setCells b o vs).heap.size = w.heap.size
  | [], _, _ => rfl
  | v :: r, o, w => by simp only [World.setCells]; rw [setCells_size b r]; simp
theorem setCells_other (b : Nat) : ∀ (vs : List Value) (o : Nat) (w : World) (c j : Nat), (c ≠ b ∨ j < o ∨ o + vs.length ≤ j) → (w.setCells b o vs).cell? (at_ c j) = w.cell? (at_ c j)
  | [], _, _, _, _, _ => rfl
  | v :: r, o, w, c, j, h => by
    simp only [World.setCells]
    rw [setCells_other b r (o + 1) _ c j (by simp only [List.length_cons] at h; omega)]
    exact World.cell?_setCell_other w _ _ _ (by simp only [at_, ne_eq, Addr.mk.injEq, and_true, List.length_cons] at h ⊢; omega)
theorem setCells_at (b : Nat) : ∀ (vs : List Value) (o : Nat) (w : World), (∀ j, j < vs.length → ∃ v, w.cell? (at_ b (o + j)) = some v) → ∀ j v, vs[j]? = some v → (w.setCells b o vs).cell? (at_ b (o + j)) = some v
  | [], _, _, _, j, v, hv => by simp at hv
  | x :: r, o, w, h, j, v, hv => by
    simp only [World.setCells]
    cases j with
    | zero =>
      simp at hv; subst hv
      rw [setCells_other b r (o + 1) _ b (o + 0) (by omega)]
      obtain ⟨u, hu⟩ := h 0 (by simp)
      exact World.cell?_setCell_same w _ _ hu
    | succ j =>
      simp at hv
      have := setCells_at b r (o + 1) (w.setCell ⟨b, o, none⟩ x) (fun i hi => by
        obtain ⟨u, hu⟩ := h (i + 1) (by simp; omega)
        refine ⟨u, ?_⟩
        rw [show o + 1 + i = o + (i + 1) by omega, World.cell?_setCell_other w _ _ _ (by simp [at_])]
        exact hu) j v hv
      rwa [show o + 1 + j = o + (j + 1) by omega] at this
theorem setCells_frozen (b : Nat) (x : Addr) : ∀ (vs : List Value) (o : Nat) (w : World), (w.setCells b o vs).frozen? x = w.frozen? x
  | [], _, _ => rfl
  | v :: r, o, w => by simp only [World.setCells]; rw [setCells_frozen b x r]; simp
theorem setCells_os (b : Nat) : ∀ (vs : List Value) (o : Nat) (w : World), (w.setCells b o vs).os = w.os ∧ (w.setCells b o vs).tape = w.tape ∧ (w.setCells b o vs).output = w.output
  | [], _, _ => ⟨rfl, rfl, rfl⟩
  | v :: r, o, w => by simp only [World.setCells]; exact setCells_os b r (o + 1) _
theorem setCells_block (b : Nat) (c : Nat) (hc : c ≠ b) : ∀ (vs : List Value) (o : Nat) (w : World), (w.setCells b o vs).heap[c]? = w.heap[c]?
  | [], _, _ => rfl
  | v :: r, o, w => by
    simp only [World.setCells]; rw [setCells_block b c hc r]
    simp only [World.setCell, Array.getElem?_modify]
    rw [if_neg (by omega)]

theorem setCells_isSome (b : Nat) (vs : List Value) (o : Nat) (w : World) (h : ∀ j, j < vs.length → ∃ v, w.cell? (at_ b (o + j)) = some v) (c j : Nat) : ((w.setCells b o vs).cell? (at_ c j)).isSome = (w.cell? (at_ c j)).isSome := by
  by_cases hin : c = b ∧ o ≤ j ∧ j < o + vs.length
  · obtain ⟨rfl, h1, h2⟩ := hin
    have h3 := setCells_at c vs o w h (j - o) vs[j - o] (by simp)
    obtain ⟨u, hu⟩ := h (j - o) (by omega)
    rw [show o + (j - o) = j by omega] at h3 hu
    rw [h3, hu]; rfl
  · rw [setCells_other _ _ _ _ _ _ (by omega)]
/-- Writing cells of one owner: all else is as it was. -/
theorem pres_write (S : Ow → Prop) {b o : Nat} {vs : List Value} {p : Ow} (hp : ¬ S p) (hv : vs ≠ []) (hg : Good κ w) (h : ∀ j, j < vs.length → κ.own b (o + j) = some p) : Pres S κ w κ (w.setCells b o vs) where
  os := (setCells_os b vs o w).1
  tape := (setCells_os b vs o w).2.1
  out := (setCells_os b vs o w).2.2
  size := by rw [setCells_size]; exact Nat.le_refl _
  blk := fun _ _ h => h
  imm := fun c j v hi => by
    refine ⟨?_, hi.2⟩
    rw [setCells_other]
    · exact hi.1
    · by_cases hc : c = b
      · subst hc
        rcases Nat.lt_or_ge j o with h1 | h1
        · exact .inr (.inl h1)
        · rcases Nat.lt_or_ge j (o + vs.length) with h2 | h2
          · have := h (j - o) (by omega)
            rw [show o + (j - o) = j by omega, hi.2] at this; cases this
          · exact .inr (.inr h2)
      · exact .inl hc
  lab := fun c j L hL hs => by
    refine ⟨hL, ?_⟩
    rw [setCells_other]
    by_cases hc : c = b
    · subst hc
      rcases Nat.lt_or_ge j o with h1 | h1
      · exact .inr (.inl h1)
      · rcases Nat.lt_or_ge j (o + vs.length) with h2 | h2
        · have := h (j - o) (by omega)
          rw [show o + (j - o) = j by omega, hL] at this
          cases this; exact (hp hs).elim
        · exact .inr (.inr h2)
    · exact .inl hc
  sz := fun c j _ => setCells_isSome b vs o w (fun i hi => (hg _ _ _ (h i hi)).1) c j
  free := fun c _ hf => by
    refine ⟨setCells_block b c ?_ vs o w, hf⟩
    rintro rfl
    have := h 0 (List.length_pos_iff.2 hv)
    rw [hf] at this; cases this
theorem good_write (g : Good κ w) (b o : Nat) (vs : List Value) (h : ∀ j, j < vs.length → ∃ v, w.cell? (at_ b (o + j)) = some v) : Good κ (w.setCells b o vs) := by
  intro c j L hL
  obtain ⟨⟨v, hv⟩, hf⟩ := g c j L hL
  refine ⟨?_, by rw [setCells_frozen]; exact hf⟩
  by_cases hin : c = b ∧ o ≤ j ∧ j < o + vs.length
  · obtain ⟨rfl, h1, h2⟩ := hin
    have := setCells_at c vs o w h (j - o) vs[j - o] (by simp)
    rw [show o + (j - o) = j by omega] at this
    exact ⟨_, this⟩
  · exact ⟨v, by rw [setCells_other _ _ _ _ _ _ (by omega)]; exact hv⟩

theorem Rep.one {v : Value} {x : V} (h : Rep κ w v x) (hx : x.one = true) : v.oneCell' = true := by
  cases h <;> first | rfl | cases hx
end Go.Ab
