/- What the interpreter's values stand for in the model's memory. -/
import Derived.Test.YtiiahehclbmodaaAbC
namespace Go.Ab
open Go
set_option linter.unusedVariables false
set_option linter.unusedSimpArgs false
set_option linter.unnecessarySimpa false

/-- Who may write a cell. -/
inductive Ow where
  | obj (id : Nat)
  | mem (id off : Nat)
  | tmp (d s : Nat)
  | loc (d s : Nat)
  | lsp (d s off : Nat)
  | fly
  deriving DecidableEq

/-- Owners of the frames below depth `d`. -/
def Ow.below (d : Nat) : Ow → Prop
  | .tmp e _ => e < d
  | .loc e _ => e < d
  | .lsp e _ _ => e < d
  | _ => False

structure K where
  own : Nat → Nat → Option Ow
  blk : Nat → Option Nat

def at_ (b o : Nat) : Addr := ⟨b, o, none⟩
def Imm (κ : K) (w : World) (b o : Nat) (v : Value) : Prop := w.cell? (at_ b o) = some v ∧ κ.own b o = none

mutual
inductive Rep (κ : K) (w : World) : Value → V → Prop
  | any (v : Value) : Rep κ w v .any
  | bool (b : Bool) : Rep κ w (.bool b) (.bool b)
  | int (k : IntKind) (n : Int) : Rep κ w (.int k n) (.int k n)
  | float (k : FloatKind) (b : Nat) : Rep κ w (.float k b) (.float k b)
  | str (s : ByteArray) : Rep κ w (.string s) (.str s.data.toList)
  | nilp : Rep κ w (.pointer none) .nilp
  | ptr {id off b : Nat} (h : κ.blk id = some b) : Rep κ w (.pointer (some (at_ b off))) (.ptr id off)
  | ep {b o : Nat} {cs : List V} (h : RepAt κ w b o cs) : Rep κ w (.pointer (some (at_ b o))) (.ep cs)
  | slice0 (a : Option Addr) (cap : Nat) : Rep κ w (.slice a 0 cap) (.slice [])
  | slice {b o cap k : Nat} {xs : List V} (hc : xs.length ≤ cap) (hk : ∀ x ∈ xs, x.cells.length = k) (h : RepAt κ w b o (xs.flatMap V.cells)) : Rep κ w (.slice (some (at_ b o)) xs.length cap) (.slice xs)
  | sref {f : Bool} {k id off b len cap : Nat} (h : κ.blk id = some b) (hf : f = true → cap = len) (hc : len ≤ cap) (hs : ∀ j, j < cap * k → (w.cell? (at_ b (off + j))).isSome = true) : Rep κ w (.slice (some (at_ b off)) len cap) (.sref f k id off len)
  | osl {a : Option Addr} {k : Nat} {xs : List V} (h : Rep κ w (.slice a xs.length xs.length) (.slice xs)) : Rep κ w (.slice a xs.length xs.length) (.osl k xs)
  | func {f : Nat} {first cap : Array Value} {a b : List V} (h1 : Reps κ w first.toList a) (h2 : Reps κ w cap.toList b) : Rep κ w (.func (.func f) first cap) (.func f a b)
  | nilf : Rep κ w .nilFunc .nilf
  | iface {t : Nat} {v : Value} {x : V} (h : Rep κ w v x) : Rep κ w (.iface t v) (.iface t x)
  | nili : Rep κ w .nilIface .nili
  | agg {cs : Array Value} {xs : List V} (h : Reps κ w cs.toList xs) : Rep κ w (.agg cs) (.agg xs)
  | tuple {vs : Array Value} {xs : List V} (h : Reps κ w vs.toList xs) : Rep κ w (.tuple vs) (.tuple xs)
inductive Reps (κ : K) (w : World) : List Value → List V → Prop
  | nil : Reps κ w [] []
  | cons {v : Value} {x : V} {vs : List Value} {xs : List V} (h : Rep κ w v x) (r : Reps κ w vs xs) : Reps κ w (v :: vs) (x :: xs)
inductive RepAt (κ : K) (w : World) : Nat → Nat → List V → Prop
  | nil {b o : Nat} : RepAt κ w b o []
  | cons {b o : Nat} {v : Value} {x : V} {xs : List V} (hi : Imm κ w b o v) (h : Rep κ w v x) (r : RepAt κ w b (o + 1) xs) : RepAt κ w b o (x :: xs)
end

/-- What is kept between two moments; `S`: the owners whose cells stay as they are. -/
structure Pres (S : Ow → Prop) (κ : K) (w : World) (κ' : K) (w' : World) : Prop where
  os : w'.os = w.os
  tape : w'.tape = w.tape
  out : w'.output = w.output
  size : w.heap.size ≤ w'.heap.size
  blk : ∀ id b, κ.blk id = some b → κ'.blk id = some b
  imm : ∀ b o v, Imm κ w b o v → Imm κ' w' b o v
  lab : ∀ b o L, κ.own b o = some L → S L → κ'.own b o = some L ∧ w'.cell? (at_ b o) = w.cell? (at_ b o)
  sz : ∀ b j, b < w.heap.size → (w'.cell? (at_ b j)).isSome = (w.cell? (at_ b j)).isSome
  free : ∀ b, b < w.heap.size → (∀ o, κ.own b o = none) → w'.heap[b]? = w.heap[b]? ∧ ∀ o, κ'.own b o = none

theorem Pres.refl (S : Ow → Prop) (κ : K) (w : World) : Pres S κ w κ w :=
  ⟨rfl, rfl, rfl, Nat.le_refl _, fun _ _ h => h, fun _ _ _ h => h, fun _ _ _ h _ => ⟨h, rfl⟩, fun _ _ _ => rfl, fun _ _ h => ⟨rfl, h⟩⟩
theorem Pres.trans {S : Ow → Prop} {κ κ' κ'' : K} {w w' w'' : World} (h : Pres S κ w κ' w') (g : Pres S κ' w' κ'' w'') : Pres S κ w κ'' w'' where
  os := g.os.trans h.os
  tape := g.tape.trans h.tape
  out := g.out.trans h.out
  size := Nat.le_trans h.size g.size
  blk := fun id b e => g.blk id b (h.blk id b e)
  imm := fun b o v e => g.imm b o v (h.imm b o v e)
  lab := fun b o L e s => let ⟨e1, c1⟩ := h.lab b o L e s; let ⟨e2, c2⟩ := g.lab b o L e1 s; ⟨e2, c2.trans c1⟩
  sz := fun b j e => (g.sz b j (Nat.lt_of_lt_of_le e h.size)).trans (h.sz b j e)
  free := fun b hb e => by
    obtain ⟨h1, h2⟩ := h.free b hb e
    obtain ⟨g1, g2⟩ := g.free b (Nat.lt_of_lt_of_le hb h.size) h2
    exact ⟨g1.trans h1, g2⟩
theorem Pres.some {S : Ow → Prop} {κ κ' : K} {w w' : World} (h : Pres S κ w κ' w') {b j : Nat} (e : (w.cell? (at_ b j)).isSome = true) : (w'.cell? (at_ b j)).isSome = true := by
  obtain ⟨v, hv⟩ := Option.isSome_iff_exists.1 e
  rw [h.sz b j (World.block_lt_of_cell? w _ hv)]; exact e
theorem Pres.mono {S S' : Ow → Prop} {κ κ' : K} {w w' : World} (h : Pres S κ w κ' w') (hs : ∀ L, S' L → S L) : Pres S' κ w κ' w' :=
  { h with lab := fun b o L e s => h.lab b o L e (hs L s) }

mutual
theorem Rep.pres {S : Ow → Prop} {κ κ' : K} {w w' : World} (p : Pres S κ w κ' w') {v : Value} {x : V} : Rep κ w v x → Rep κ' w' v x
  | .any v => .any v
  | .bool b => .bool b
  | .int k n => .int k n
  | .float k b => .float k b
  | .str s => .str s
  | .nilp => .nilp
  | .ptr h => .ptr (p.blk _ _ h)
  | .ep h => .ep (RepAt.pres p h)
  | .slice0 a c => .slice0 a c
  | .slice hc hk h => .slice hc hk (RepAt.pres p h)
  | .sref h hf hc hs => .sref (p.blk _ _ h) hf hc (fun j hj => p.some (hs j hj))
  | .osl h => .osl (Rep.pres p h)
  | .func h1 h2 => .func (Reps.pres p h1) (Reps.pres p h2)
  | .nilf => .nilf
  | .iface h => .iface (Rep.pres p h)
  | .nili => .nili
  | .agg h => .agg (Reps.pres p h)
  | .tuple h => .tuple (Reps.pres p h)
theorem Reps.pres {S : Ow → Prop} {κ κ' : K} {w w' : World} (p : Pres S κ w κ' w') {vs : List Value} {xs : List V} : Reps κ w vs xs → Reps κ' w' vs xs
  | .nil => .nil
  | .cons h r => .cons (Rep.pres p h) (Reps.pres p r)
theorem RepAt.pres {S : Ow → Prop} {κ κ' : K} {w w' : World} (p : Pres S κ w κ' w') {b o : Nat} {xs : List V} : RepAt κ w b o xs → RepAt κ' w' b o xs
  | .nil => .nil
  | .cons hi h r => .cons (p.imm _ _ _ hi) (Rep.pres p h) (RepAt.pres p r)
end

theorem Rep.sref_inv {κ : K} {w : World} {v : Value} {f : Bool} {k id off len : Nat} (h : Rep κ w v (.sref f k id off len)) :
    ∃ b cap, v = .slice (some (at_ b off)) len cap ∧ κ.blk id = some b ∧ (f = true → cap = len) ∧ len ≤ cap ∧ ∀ j, j < cap * k → (w.cell? (at_ b (off + j))).isSome = true := by
  cases h with
  | sref h hf hc hs => exact ⟨_, _, rfl, h, hf, hc, hs⟩

/-- The spare room of a slice belongs to an owner. -/
def Spare (κ : K) (p : Ow) (k : Nat) : Value → Prop
  | .slice a len cap => cap = len ∨ (0 < k ∧ len ≤ cap ∧ ∃ b o, a = some (at_ b o) ∧ ∀ j, o + len * k ≤ j → j < o + cap * k → κ.own b j = some p)
  | _ => False
/-- A cell of memory that belongs to `p`'s place. -/
def RepM (κ : K) (w : World) (p : Ow) (v : Value) (x : V) : Prop :=
  match x with
  | .osl k xs => Rep κ w v (.slice xs) ∧ Spare κ p k v
  | x => Rep κ w v x

def Good (κ : K) (w : World) : Prop :=
  ∀ b j L, κ.own b j = some L → (∃ v, w.cell? (at_ b j) = some v) ∧ w.frozen? (at_ b j) = false

/-- Where the frame's own variables lie. -/
abbrev Lam := Nat → Option Nat

def cellsAre (κ : K) (w : World) (b : Nat) (who : Ow) (sp : Nat → Ow) (cs : List V) : Prop :=
  ∀ j x, cs[j]? = some x → κ.own b j = some who ∧ ∃ v, w.cell? (at_ b j) = some v ∧ RepM κ w (sp j) v x

/-- What a temporary's entry says of its value. -/
def RepE (d : Nat) (κ : K) (w : World) (lam : Lam) (fr : Fr) (st : St) (tmps : Array Value) (s : Nat) (v : Value) : E → Prop
  | .any => True
  | .val x => Rep κ w v x
  | .lp t off => ∃ b, lam t = some b ∧ v = .pointer (some (at_ b off))
  | .own k xs => Rep κ w v (.slice xs) ∧ Spare κ (.tmp d s) k v
  | .bor k xs (.slot t) => Rep κ w v (.slice xs) ∧ fr.get t = .own k xs ∧ tmps.getD t undef = v
  | .bor k xs (.mem id off) => Rep κ w v (.slice xs) ∧ ∃ cs b, st.obj id = some cs ∧ cs[off]? = some (.osl k xs) ∧ κ.blk id = some b ∧ w.cell? (at_ b off) = some v
  | .bor k xs (.loc t off) => Rep κ w v (.slice xs) ∧ ∃ cs b, fr.loc t = some cs ∧ cs[off]? = some (.osl k xs) ∧ lam t = some b ∧ w.cell? (at_ b off) = some v

/-- A value that is on its way into a temporary. -/
def RepV (κ : K) (w : World) (lam : Lam) (fr : Fr) (st : St) (tmps : Array Value) (v : Value) : E → Prop
  | .any => True
  | .val x => Rep κ w v x
  | .lp t off => ∃ b, lam t = some b ∧ v = .pointer (some (at_ b off))
  | .own k xs => Rep κ w v (.slice xs) ∧ Spare κ .fly k v
  | .bor k xs (.slot t) => Rep κ w v (.slice xs) ∧ fr.get t = .own k xs ∧ tmps.getD t undef = v
  | .bor k xs (.mem id off) => Rep κ w v (.slice xs) ∧ ∃ cs b, st.obj id = some cs ∧ cs[off]? = some (.osl k xs) ∧ κ.blk id = some b ∧ w.cell? (at_ b off) = some v
  | .bor k xs (.loc t off) => Rep κ w v (.slice xs) ∧ ∃ cs b, fr.loc t = some cs ∧ cs[off]? = some (.osl k xs) ∧ lam t = some b ∧ w.cell? (at_ b off) = some v

/-- What lies behind an object's last cell is the object's. -/
def Room (κ : K) (w : World) (st : St) : Prop :=
  ∀ id cs b, st.obj id = some cs → cs ≠ [] → κ.blk id = some b → ∀ j, cs.length ≤ j → (w.cell? (at_ b j)).isSome = true → κ.own b j = some (.obj id)
/-- The state's objects. -/
structure Sim (κ : K) (w : World) (st : St) : Prop where
  wple : st.wp ≤ st.objs.length
  good : Good κ w
  fresh : ∀ id, st.objs.length ≤ id → κ.blk id = none
  obj : ∀ id cs, st.obj id = some cs → ∃ b, κ.blk id = some b ∧ cellsAre κ w b (.obj id) (.mem id) cs
  room : Room κ w st

theorem Room.step {S : Ow → Prop} {κ κ' : K} {w w' : World} {st : St} (s : Sim κ w st) (p : Pres S κ w κ' w') (id : Nat) {cs cs' : List V} {b' : Nat} (h1 : st.obj id = some cs) (h2 : cs.length = cs'.length) (h3 : cs' ≠ [])
    (hb : κ'.blk id = some b') (hl : ∀ b j, κ.own b j = some (.obj id) → κ'.own b j = some (.obj id)) : ∀ j, cs'.length ≤ j → (w'.cell? (at_ b' j)).isSome = true → κ'.own b' j = some (.obj id) := by
  intro j hj hc
  obtain ⟨b, hb1, hcs⟩ := s.obj id cs h1
  have hb2 := p.blk _ _ hb1
  rw [hb] at hb2; cases hb2
  cases cs with
  | nil => simp at h2; exact absurd (List.length_eq_zero_iff.1 h2.symm) h3
  | cons x r =>
    obtain ⟨_, v, hv, _⟩ := hcs 0 x rfl
    rw [p.sz b' j (World.block_lt_of_cell? w _ hv)] at hc
    exact hl _ _ (s.room id _ _ h1 (by simp) hb1 j (by omega) hc)
theorem Room.pres {S : Ow → Prop} {κ κ' : K} {w w' : World} {st : St} (s : Sim κ w st) (p : Pres S κ w κ' w') (h : ∀ id, id < st.objs.length → S (.obj id)) : Room κ' w' st := by
  intro id cs b h1 h2 h3
  exact Room.step s p id h1 rfl h2 h3 (fun b j hl => (p.lab b j _ hl (h id (List.getElem?_eq_some_iff.1 h1).1)).1)

/-- The frame. -/
structure Fm (d n : Nat) (κ : K) (w : World) (lam : Lam) (fr : Fr) (st : St) (a : Act) : Prop where
  defers : a.defers = []
  size : a.tmps.size = n
  tmp : ∀ s, RepE d κ w lam fr st a.tmps s (a.tmps.getD s undef) (fr.get s)
  loc : ∀ s cs, fr.loc s = some cs → ∃ b, lam s = some b ∧ cellsAre κ w b (.loc d s) (.lsp d s) cs

structure R (d n : Nat) (κ : K) (w : World) (lam : Lam) (fr : Fr) (st : St) (a : Act) : Prop where
  sim : Sim κ w st
  fm : Fm d n κ w lam fr st a

/-- The owners whose cells a call at depth `d` leaves as they are. -/
def Keep (d wp : Nat) (L : Ow) : Prop :=
  L.below d ∨ (∃ id, L = .obj id ∧ id < wp) ∨ (∃ id off, L = .mem id off ∧ id < wp)

end Go.Ab
