/- What a law is given, as the interpreter's values. -/
import Derived.Test.YtiiahehclbmodaaAbD
namespace Go.Ab
open Go Go.ChangeShapes Go.WideShapes
set_option linter.unusedVariables false
set_option linter.unusedSimpArgs false
set_option linter.unnecessarySimpa false
variable {H : Type} {enc : TypeId × Value → H} {P : Program} {w : World} {base b0 : Nat} {spare : Nat → Bool} {held : Bool} {r : Reach}
theorem arg_ints {t e : TypeId} {k : IntKind} {v : Value} {d : DataW H} {ps : List MemPlace} (ht : P.underlying t = some (.slice e)) (he : P.underlying e = some (.int k)) (hc : P.cellsOf e = 1)
    (hval : Value.okWide P w r b0 t v) (h : DataW.Trod enc P w base spare held t v d ps) : ∃ zs : List Int, Rep K0 w v (.slice (zs.map (V.int k))) ∧ ∀ n ∈ zs, (Lit.int k n).wf = true := by
  obtain ⟨a0, len, cap, rfl⟩ := okWide_slice ht hval
  obtain ⟨fuel, hf⟩ := h
  rcases open_ints ht he hc hf with ⟨hcs, _⟩ | ⟨a, len', cap', zs, hcs, _, hl, hm, hz, _, hcell, hwz⟩
  · simp [Value.cells] at hcs
    obtain ⟨rfl, rfl, rfl⟩ := hcs
    exact ⟨[], .slice0 _ _, by simp⟩
  · simp [Value.cells] at hcs
    obtain ⟨rfl, rfl, rfl⟩ := hcs
    have hzl : len ≤ zs.length := by rw [hz]; split <;> omega
    by_cases h0 : len = 0
    · subst h0; exact ⟨[], .slice0 _ _, by simp⟩
    · refine ⟨zs.take len, ?_, fun n hn => hwz n (List.mem_of_mem_take hn)⟩
      obtain ⟨b, off, spot⟩ := a
      have hspot : spot = none := by simpa [Addr.add] using World.cell?_spot (hcell 0 (by omega))
      subst hspot
      have hlen : ((zs.take len).map (V.int k)).length = len := by simp; omega
      have hfl : ((zs.take len).map (V.int k)).flatMap V.cells = (zs.take len).map (V.int k) := by
        generalize zs.take len = l
        induction l with
        | nil => rfl
        | cons x r ih => simp only [List.map_cons, List.flatMap_cons, ih]; rfl
      have key : Rep K0 w (.slice (some (at_ b off)) ((zs.take len).map (V.int k)).length cap) (.slice ((zs.take len).map (V.int k))) := by
        refine .slice (k := 1) (by rw [hlen]; exact hl) (fun x hx => ?_) ?_
        · obtain ⟨n, _, rfl⟩ := List.mem_map.1 hx; rfl
        · rw [hfl]
          refine RepAt.of_get fun j x hx => ?_
          rw [List.getElem?_map, List.getElem?_take] at hx
          split at hx
          · rename_i hj
            have hjz : j < zs.length := by omega
            rw [List.getElem?_eq_getElem hjz] at hx
            simp only [Option.map_some, Option.some.injEq] at hx
            subst hx
            refine ⟨.int k zs[j], ⟨?_, rfl⟩, .int _ _⟩
            have := hcell j hjz
            simp only [List.getD, List.getElem?_eq_getElem hjz, Option.getD_some] at this
            rwa [show ({ block := b, off := off } : Addr) = at_ b off from rfl, addr_add] at this
          · cases hx
      rw [hlen] at key
      exact key
theorem bytes_map {zs : List Int} (h : ∀ n ∈ zs, (Lit.int .u8 n).wf = true) : ∃ bs : List UInt8, zs.map (V.int .u8) = byteVs bs := by
  refine ⟨zs.map fun n => UInt8.ofNat n.toNat, ?_⟩
  simp only [byteVs, List.map_map]
  refine List.map_congr_left fun n hn => ?_
  have h1 := h n hn
  simp only [Lit.wf, Bool.and_eq_true, decide_eq_true_eq] at h1
  have h2 : (0 : Int) ≤ n := h1.1
  have h3 : n ≤ 255 := h1.2
  simp only [Function.comp, V.int.injEq, true_and, UInt8.toNat_ofNat']
  rw [Nat.mod_eq_of_lt (by omega)]
  omega
theorem arg_bytes {t e : TypeId} {v : Value} {d : DataW H} {ps : List MemPlace} (ht : P.underlying t = some (.slice e)) (he : P.underlying e = some (.int .u8)) (hc : P.cellsOf e = 1)
    (hval : Value.okWide P w r b0 t v) (h : DataW.Trod enc P w base spare held t v d ps) : ∃ bs : List UInt8, Rep K0 w v (.slice (byteVs bs)) := by
  obtain ⟨zs, h1, h2⟩ := arg_ints ht he hc hval h
  obtain ⟨bs, hb⟩ := bytes_map h2
  exact ⟨bs, hb ▸ h1⟩
theorem arg_int {t : TypeId} {k : IntKind} {v : Value} (ht : P.underlying t = some (.int k)) (hval : Value.okWide P w r b0 t v) : ∃ n, Rep K0 w v (.int k n) := by
  obtain ⟨n, rfl⟩ := okWide_int ht hval
  exact ⟨n, .int _ _⟩
theorem arg_str {t : TypeId} {v : Value} (ht : P.underlying t = some .string) (hval : Value.okWide P w r b0 t v) : ∃ s, Rep K0 w v (.str s) := by
  obtain ⟨s, rfl⟩ := okWide_string ht hval
  exact ⟨_, .str _⟩
theorem arg_float {t : TypeId} {k : FloatKind} {v : Value} (ht : P.underlying t = some (.float k)) (hval : Value.okWide P w r b0 t v) : ∃ b, Rep K0 w v (.float k b) := by
  have : ∃ b, v = .float k b := by
    simp only [Value.okWide, ht, Cell.okWide] at hval
    cases v <;> simp_all [Cell.ok]
  obtain ⟨b, rfl⟩ := this
  exact ⟨b, .float _ _⟩
end Go.Ab
