/- Arrays of bits that come in by value; the walk of BchSyndromes over them. -/
import Derived.Test.YthponlnklmhbeaaBchSynLaw
import Derived.OpenShut
import Derived.ProofKit
import Derived.WideShapes
set_option linter.unusedVariables false
set_option linter.unusedSimpArgs false
namespace Go.Proofs.Ythponlnklmhbeaa
open Go.ChangeShapes Go.WideShapes Go.ChangeAt Go.RowKit
theorem okWide_array {P : Program} {w : World} {r : Reach} {b n : Nat} {t e : TypeId} {v : Value} (ht : P.underlying t = some (.array n e)) (h : Value.okWide P w r b t v) : ∃ cs, v = .agg cs ∧ cs.size = P.cellsOf t := by
  unfold Value.okWide at h
  rw [ht] at h
  obtain ⟨cs, h1, h2, _⟩ := h
  exact ⟨cs, h1, h2⟩
theorem open_bits {H : Type} {enc : TypeId × Value → H} {P : Program} {w : World} {base : Nat} {spare : Nat → Bool} {held : Bool} {r : Reach} {b n : Nat} {t e : TypeId} {v : Value} {d : DataW H} {p : List MemPlace}
    (ht : P.underlying t = some (.array n e)) (he : P.underlying e = some .bool) (hce : P.cellsOf e = 1) (hct : P.cellsOf t = n)
    (hv : Value.okWide P w r b t v) (h : DataW.Trod enc P w base spare held t v d p) :
    ∃ zs : List Bool, v = .agg (zs.map Value.bool).toArray ∧ zs.length = n := by
  obtain ⟨cs, rfl, hsz⟩ := okWide_array ht hv
  obtain ⟨fuel, hf⟩ := h
  have hf' : DataW.trod enc P w base spare held fuel t cs.toList = some (d, p) := hf
  obtain ⟨xs, m, _, _, hl, hxl, hget⟩ := DataW.trod_array ht hf'
  rw [hce] at hget
  have hcl : cs.toList.length = n := by rw [Array.length_toList, hsz, hct]
  have key : ∀ i, i < n → ∃ z, cs.toList[i]? = some (.bool z) := by
    intro i hi
    have h1 := hget i hi
    have h2 : xs[i]? = some (xs[i]'(by omega)) := List.getElem?_eq_getElem (by omega)
    rw [h2, Nat.mul_one] at h1
    obtain ⟨z, h3, _⟩ := DataW.trod_bool he h1
    refine ⟨z, ?_⟩
    have h5 : (cs.toList.drop i).take 1 = [cs.toList[i]'(by omega)] := by
      rw [List.drop_eq_getElem_cons (by omega)]; rfl
    rw [h5] at h3
    rw [List.getElem?_eq_getElem (by omega)]
    simpa using h3
  have build : ∀ (l : List Value), (∀ i, i < l.length → ∃ z, l[i]? = some (.bool z)) → ∃ zs : List Bool, l = zs.map Value.bool := by
    intro l
    induction l with
    | nil => intro _; exact ⟨[], rfl⟩
    | cons x l ih =>
      intro h
      obtain ⟨z, h1⟩ := h 0 (by simp)
      obtain ⟨zs, h3⟩ := ih fun i hi => by simpa using h (i + 1) (by simp; omega)
      have h1' : x = .bool z := by simpa using h1
      exact ⟨z :: zs, by rw [h1', h3]; rfl⟩
  obtain ⟨zs, h1⟩ := build cs.toList fun i hi => key i (by omega)
  refine ⟨zs, ?_, by rw [← hcl, h1, List.length_map]⟩
  rw [← h1]
theorem open_word {H : Type} {enc : TypeId × Value → H} {w : World} {base : Nat} {spare : Nat → Bool} {held : Bool} {r : Reach} {b : Nat} {v : Value} {d : DataW H} {p : List MemPlace}
    (hv : Value.okWide Try.prog w r b 39 v) (h : DataW.Trod enc Try.prog w base spare held 39 v d p) : ∃ f : Nat → Bool, v = .agg (wordV f) := by
  obtain ⟨zs, rfl, h1⟩ := open_bits Try.underlying39 Try.underlying4 (by kernel_rfl) (by kernel_rfl) hv h
  refine ⟨fun i => zs.getD i false, ?_⟩
  unfold wordV
  congr 2
  apply List.ext_getElem
  · simp [h1]
  · intro i h2 h3
    simp only [List.getElem_map, List.getElem_range]
    rw [List.getD_eq_getElem?_getD, List.getElem?_eq_getElem (by simpa using h2)]
    rfl
end Go.Proofs.Ythponlnklmhbeaa
