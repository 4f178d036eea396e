/- How the slices among this seat's arguments are opened. -/
import Derived.Test.YthhfogpkaeminaaBitsLays
import Derived.ProofKit
import Derived.OpenShut
import Derived.Deep.SlicePairs
namespace Go.Proofs.Ythhfogpkaeminaa
open Go.ChangeShapes Go.WideShapes Go.ChangeAt Go.RowKit Go.Deep
theorem fields40 : ∃ f0 f1 : Field, Try.prog.underlying 40 = some (.struct #[f0, f1]) ∧ f0.offset = 0 ∧ f1.offset = 1 ∧ f0.type = 3 ∧ f1.type = 3 := ⟨_, _, Try.underlying40, rfl, rfl, rfl, rfl⟩
theorem cells40 : Try.prog.cellsOf 40 = 2 := by kernel_rfl
theorem cells3 : Try.prog.cellsOf 3 = 1 := by kernel_rfl
theorem open_row_37 {H : Type} {enc : TypeId × Value → H} {W : World} {base : Nat} {spare : Nat → Bool} {held : Bool} {a : Option Addr} {len cap : Nat} {d : DataW H} {p : List MemPlace}
    (h : DataW.Trod enc Try.prog W base spare held 37 (.slice a len cap) d p) : ∃ zs, Pairs W a len zs := by
  obtain ⟨fuel, hf⟩ := h
  obtain ⟨f0, f1, hu, o0, o1, t0, t1⟩ := fields40
  rcases open_slice_pairs Try.underlying37 hu cells40 o0 o1 (by rw [t0]; exact cells3) (by rw [t1]; exact cells3) hf with ⟨hcs, _⟩ | ⟨ad, l, c, m, n, V0, V1, D0, D1, P0, P1, hcs, _, hl, hm, hmm, hx, hcell⟩
  · simp [Value.cells] at hcs
    obtain ⟨rfl, rfl, rfl⟩ := hcs
    exact ⟨[], rfl, fun h => by omega⟩
  · simp [Value.cells] at hcs
    obtain ⟨rfl, rfl, rfl⟩ := hcs
    have hlm : len ≤ m := by rw [hmm]; split <;> omega
    have hnum : ∀ i, i < len → ∃ x y : Int, V0 i = .int .i64 x ∧ V1 i = .int .i64 y := by
      intro i hi
      obtain ⟨_, _, h0, h1⟩ := hcell i (by omega)
      rw [t0] at h0
      rw [t1] at h1
      obtain ⟨x, e0, _⟩ := DataW.trod_int Try.underlying3 h0
      obtain ⟨y, e1, _⟩ := DataW.trod_int Try.underlying3 h1
      exact ⟨x, y, by simpa using e0, by simpa using e1⟩
    refine ⟨(List.range len).map fun i => (intOf (V0 i), intOf (V1 i)), by simp, fun hp => ?_⟩
    obtain ⟨b, off, spot⟩ := ad
    have h00 := (hcell 0 (by omega)).1
    have hspot : spot = none := by simpa [Addr.add] using World.cell?_spot h00
    subst hspot
    refine ⟨b, off, rfl, World.block_lt_of_cell? W _ (by rw [Go.WideShapes.add_plain] at h00; exact h00), fun i hi => ?_⟩
    obtain ⟨x, y, e0, e1⟩ := hnum i hi
    obtain ⟨c0, c1, _, _⟩ := hcell i (by omega)
    rw [Go.WideShapes.add_plain] at c0 c1
    have hg : ((List.range len).map fun i => (intOf (V0 i), intOf (V1 i))).getD i (0, 0) = (x, y) := by
      simp [List.getD_eq_getElem?_getD, List.getElem?_map, List.getElem?_range hi, e0, e1, intOf]
    rw [hg]
    exact ⟨by rw [c0, e0], by rw [← Nat.add_assoc] at c1; rw [c1, e1]⟩
end Go.Proofs.Ythhfogpkaeminaa
