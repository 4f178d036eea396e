/- How lists of strings and of acts that come in are opened. -/
import Derived.Test.YthoemgiadadfcaaDoorRdCounts
import Derived.ProofKit
import Derived.OpenShut
import Derived.SliceStrings
import Derived.Deep.Slices
import Derived.Laws.IdiomArrays
set_option linter.unusedVariables false
set_option linter.unusedSimpArgs false
namespace Go.Proofs.YthoemgiadadfcaaDoor
open Go.ChangeShapes Go.WideShapes Go.ChangeAt Go.RowKit Go.Deep Rd
theorem collect {α : Type} {Q : Nat → α → Prop} : ∀ n, (∀ i, i < n → ∃ y, Q i y) → ∃ l : List α, l.length = n ∧ ∀ i y, l[i]? = some y → Q i y
  | 0, _ => ⟨[], rfl, by simp⟩
  | n + 1, h => by
    obtain ⟨l, hl, hq⟩ := collect n fun i hi => h i (by omega)
    obtain ⟨y, hy⟩ := h n (by omega)
    refine ⟨l ++ [y], by simp [hl], fun i z hz => ?_⟩
    by_cases hi : i < l.length
    · rw [List.getElem?_append_left hi] at hz
      exact hq i z hz
    · rw [List.getElem?_append_right (by omega)] at hz
      have h0 : i - l.length = 0 := by
        have := (List.getElem?_eq_some_iff.1 hz).1
        simp at this
        omega
      rw [h0] at hz
      cases hz
      rw [show i = n by omega]
      exact hy
theorem rr_of {α : Type} {W : World} {k : Nat} {enc : α → List Value} (hk : ∀ x, (enc x).length = k) (hk0 : 0 < k) (x : Addr) (len cap : Nat)
    (h : ∀ i, i < len → ∃ y : α, ∀ j u, (enc y)[j]? = some u → W.cell? ((x.add (i * k)).add j) = some u) : ∃ l : List α, Rr W k enc (.slice (some x) len cap) l ∧ l.length = len := by
  obtain ⟨l, hl, hq⟩ := collect len h
  refine ⟨l, ⟨some x, cap, by rw [hl], ?_⟩, hl⟩
  rcases l with _ | ⟨y, l⟩
  · exact .inl rfl
  · right
    have hs : ∀ i z, (y :: l)[i]? = some z → ∀ j u, (enc z)[j]? = some u → W.cell? ((x.add (i * k)).add j) = some u := fun i z hz j u hu => hq i z hz j u hu
    obtain ⟨b, off, spot⟩ := x
    have h0 := hs 0 y rfl 0 _ (List.getElem?_eq_getElem (by rw [hk]; exact hk0))
    have hspot : spot = none := by simpa [Addr.add] using World.cell?_spot h0
    subst hspot
    have hs' : ∀ i z, (y :: l)[i]? = some z → ∀ j u, (enc z)[j]? = some u → W.cell? ⟨b, off + i * k + j, none⟩ = some u := fun i z hz j u hu => by
      have := hs i z hz j u hu
      rwa [Go.WideShapes.add_plain, Go.WideShapes.add_plain] at this
    exact ⟨b, off, rfl, World.block_lt_of_cell? W _ (hs' 0 y rfl 0 _ (List.getElem?_eq_getElem (by rw [hk]; exact hk0))), hs'⟩
section
variable {H : Type} {enc : TypeId × Value → H} {W : World} {base : Nat} {spare : Nat → Bool} {held : Bool} {d : DataW H} {p : List MemPlace} {r : Reach} {b0 : Nat} {v : Value}
set_option maxRecDepth 100000 in
theorem open_l (hv : Value.okWide Tryd.prog W r b0 22 v) (h : DataW.Trod enc Tryd.prog W base spare held 22 v d p) : ∃ l : List ByteArray, Rr W 1 st v l ∧ l.length ≤ 9223372036854775807 := by
  obtain ⟨a, len, cap, rfl⟩ := okWide_slice Tryd.underlying22 hv
  obtain ⟨fuel, hf⟩ := h
  rcases open_strings Tryd.underlying22 Tryd.underlying9 (by kernel_rfl) hf with ⟨hcs, _⟩ | ⟨x, l, c, ss, hcs, _, hl, hm, hz, _, hcell, _⟩
  · simp [Value.cells] at hcs
    obtain ⟨rfl, rfl, rfl⟩ := hcs
    exact ⟨[], Rr.nil _ _ _, by simp⟩
  · simp [Value.cells] at hcs
    obtain ⟨rfl, rfl, rfl⟩ := hcs
    have hlz : len ≤ ss.length := by rw [hz]; split <;> omega
    have hm9 : len ≤ 9223372036854775807 := Nat.le_trans (Nat.le_trans hl hm) (by decide)
    obtain ⟨l, h1, h2⟩ := rr_of st_length (by omega) x len cap (fun i hi => ⟨ss.getD i ByteArray.empty, fun j u hu => by
      have hj : j = 0 := by have := (List.getElem?_eq_some_iff.1 hu).1; rw [st_length] at this; omega
      subst hj
      cases hu
      have := hcell i (by omega)
      simpa [Addr.add] using this⟩)
    exact ⟨l, h1, by omega⟩
set_option maxRecDepth 100000 in
theorem open_a (hv : Value.okWide Tryd.prog W r b0 23 v) (h : DataW.Trod enc Tryd.prog W base spare held 23 v d p) : ∃ l : List Ac, Rr W 4 ac v l ∧ l.length ≤ 9223372036854775807 := by
  obtain ⟨a, len, cap, rfl⟩ := okWide_slice Tryd.underlying23 hv
  obtain ⟨fuel, hf⟩ := h
  rcases open_slice Tryd.underlying23 hf with ⟨hcs, _⟩ | ⟨x, l, c, m, n, D, Pl, hcs, _, hl, hm, hz, _, hi⟩
  · simp [Value.cells] at hcs
    obtain ⟨rfl, rfl, rfl⟩ := hcs
    exact ⟨[], Rr.nil _ _ _, by simp⟩
  · simp [Value.cells] at hcs
    obtain ⟨rfl, rfl, rfl⟩ := hcs
    have hlz : len ≤ m := by rw [hz]; split <;> omega
    have hm9 : len ≤ 9223372036854775807 := Nat.le_trans (Nat.le_trans hl hm) (by decide)
    rw [show Tryd.prog.cellsOf 29 = 4 by kernel_rfl] at hi
    obtain ⟨l, h1, h2⟩ := rr_of ac_length (by omega) x len cap (fun i him => by
      obtain ⟨cs', hc, ht'⟩ := hi i (by omega)
      obtain ⟨ys, n', hn', hy, hlen, hyl, hf9⟩ := DataW.trod_struct Tryd.underlying29 ht'
      obtain ⟨_, hcl, hat⟩ := World.cells?_some hc
      obtain ⟨z0, z1, z2, z3, rfl⟩ : ∃ z0 z1 z2 z3, cs' = [z0, z1, z2, z3] := by
        rcases cs' with _ | ⟨z0, _ | ⟨z1, _ | ⟨z2, _ | ⟨z3, _ | ⟨z4, cs'⟩⟩⟩⟩⟩ <;> simp at hcl
        exact ⟨z0, z1, z2, z3, rfl⟩
      have f0 : DataW.trod enc Tryd.prog W base spare held n' 9 (([z0, z1, z2, z3].drop 0).take (Tryd.prog.cellsOf 9)) = ys[0]? := hf9 0 _ rfl
      have f1 : DataW.trod enc Tryd.prog W base spare held n' 27 (([z0, z1, z2, z3].drop 1).take (Tryd.prog.cellsOf 27)) = ys[1]? := hf9 1 _ rfl
      rw [show Tryd.prog.cellsOf 9 = 1 by kernel_rfl, List.getElem?_eq_getElem (show 0 < ys.length by rw [hyl]; decide)] at f0
      rw [show Tryd.prog.cellsOf 27 = 3 by kernel_rfl, List.getElem?_eq_getElem (show 1 < ys.length by rw [hyl]; decide)] at f1
      obtain ⟨s, e0, _, _⟩ := DataW.trod_string Tryd.underlying9 f0
      obtain ⟨y0, y1, y2, n9, _, g0, g1, g2⟩ := trod_array3 Tryd.underlying27 (by kernel_rfl) f1
      obtain ⟨a0, e1, _, _⟩ := DataW.trod_int Tryd.underlying3 g0
      obtain ⟨a1, e2, _, _⟩ := DataW.trod_int Tryd.underlying3 g1
      obtain ⟨a2, e3, _, _⟩ := DataW.trod_int Tryd.underlying3 g2
      cases e0; cases e1; cases e2; cases e3
      refine ⟨⟨s, a0, a1, a2⟩, fun j u hu => ?_⟩
      have hj : j < 4 := by have := (List.getElem?_eq_some_iff.1 hu).1; rw [ac_length] at this; omega
      rw [hat j hj]
      exact hu)
    exact ⟨l, h1, by omega⟩
end
end Go.Proofs.YthoemgiadadfcaaDoor
