/- The document's example of a sum: the walk of belfrylaw01.awake. -/
import Derived.Test.YthmiomncgkmnoaaDoorSipRefSum
set_option linter.unusedVariables false
set_option linter.unusedSimpArgs false
namespace Go.Proofs.YthmiomncgkmnoaaDoor
open Go.RowKit Go.Sort Sip
def keyAt (k : Nat) : List Nat := (List.range 16).map fun i => if i < k then i else 0
theorem keyAt_set : ∀ k, k < 16 → (keyAt k).set k k = keyAt (k + 1) := by decide
theorem keyAt_all : keyAt 16 = List.range 16 := by decide
theorem keyV_set (l : List Nat) (i x : Nat) : (keyV l).setIfInBounds i (.int .u8 x) = keyV (l.set i x) := by
  unfold keyV
  rw [List.setIfInBounds_toArray, List.map_set]
theorem awake_num : sumW (le ((List.range 16).take 8)) (le ((List.range 16).drop 8)) (words (List.range 15)) = 11613035633349379557 := by decide +kernel
theorem info5 : (Tryd.prog.info? 5).map (fun i => (i.zero, i.size, i.bytes)) = some (some (.int .u8 0), 1, 1) := by kernel_rfl
/-- The key has k bytes, the text m. -/
structure Aw (w0 w : World) (b : Nat) (v : Value) (k m : Nat) : Prop where
  row : w.heap[b]? = some (.cells (keyV (keyAt k)) 23 (0, 0))
  own : Own w 5 .u8 v (casts (List.range m))
  below : Below w0.heap.size w0 w
  base : w0.heap.size ≤ b
  news : ∀ j ∈ foot v, w0.heap.size ≤ j ∧ j ≠ b
theorem Aw.set {w0 w : World} {b : Nat} {v : Value} {k m : Nat} (h : Aw w0 w b v k m) (hk : k < 16) : Aw w0 (w.setCell ⟨b, k, none⟩ (.int .u8 k)) b v (k + 1) m := by
  have hkp : Keep w (w.setCell ⟨b, k, none⟩ (.int .u8 k)) [b] := Keep.setCell w ⟨b, k, none⟩ _ [b] (by simp)
  refine ⟨?_, ?_, hkp.below h.below (by intro j hj; rw [List.mem_singleton] at hj; rw [hj]; exact h.base), h.base, h.news⟩
  · rw [heap_setCell_same w b k _ 23 _ h.row, keyV_set, keyAt_set k hk]
  · exact h.own.keep hkp fun j hj => by rw [List.mem_singleton]; exact (h.news j hj).2
theorem Aw.push {w0 w w1 : World} {b g cap k m : Nat} {v : Value} (h : Aw w0 w b v k m)
    (ho : Own w1 5 .u8 (.slice (some ⟨g, 0, none⟩) (casts (List.range m) ++ [(m : Int)]).length cap) (casts (List.range m) ++ [(m : Int)])) (hk : Keep w w1 (foot v)) (hf : g ∈ foot v ∨ w.heap.size ≤ g) :
    Aw w0 w1 b (.slice (some ⟨g, 0, none⟩) ((casts (List.range m)).length + 1) cap) k (m + 1) := by
  have e : (casts (List.range m)).length + 1 = (casts (List.range m) ++ [(m : Int)]).length := by rw [List.length_append]; rfl
  have hb := (Array.getElem?_eq_some_iff.1 h.row).1
  rw [e]
  refine ⟨?_, by rw [List.range_succ, ← casts_snoc]; exact ho, hk.below h.below fun j hj => (h.news j hj).1, h.base, ?_⟩
  · rw [hk.block b hb fun hj => (h.news b hj).2 rfl]; exact h.row
  · intro j hj
    rw [foot_slice, List.mem_singleton] at hj
    subst hj
    rcases hf with h1 | h1
    · exact h.news _ h1
    · have := h.below.size; exact ⟨by omega, by omega⟩
theorem conv_i64_u8 (k : Nat) (h : k < 256) : IntKind.u8.wrap (k : Int) = (k : Int) := by
  have : IntKind.u8.wrap (k : Int) = (k : Int) % 256 := by simp [IntKind.wrap, IntKind.bits, IntKind.signed]
  rw [this]; omega
theorem zero23 : ∀ w, (zeroValue 23).run Tryd.prog w = .ok (.agg (keyV (keyAt 0))) w := by
  have h : (Tryd.prog.info? 23).map (fun i => i.zero) = some (some (.agg (keyV (keyAt 0)))) := by kernel_rfl
  intro w
  obtain ⟨i, hi, hz⟩ := Option.map_eq_some_iff.1 h
  simp [zeroValue, typeInfo, hi, hz]
set_option maxRecDepth 100000 in
theorem sipAwake_is (w : World) (hg : Signs w) : Calls Tryd.prog 15 #[] w fun e w' => e = .returned (.bool true) ∧ Below w.heap.size w w' := by
  have hz := zero23 w
  have h0 : Hid (Aw w (w.alloc (.cells (keyV (keyAt 0)) 23)) w.heap.size (.slice none 0 0) 0 0) := by
    refine ⟨heap_alloc_new w _, Own.nil _ _ _, (Below.refl _ _).alloc (Nat.le_refl _) _, Nat.le_refl _, by simp [foot_nil]⟩
  have HG := Lib.hid hg
  clear hg
  go_enter Tryd.func15, Tryd.ntmps15
  go_wp2
  obtain ⟨b, hb⟩ : ∃ b, b = w.heap.size := ⟨_, rfl⟩
  rw [← hb] at h0
  rw [← hb]
  generalize w.alloc (.cells (keyV (keyAt 0)) 23) = W0 at *
  clear hz hb
  go_loopw [2, 3] (fun v i wr => ∃ k : Nat, k ≤ 16 ∧ i = .int .i64 k ∧ Hid (Aw w wr b v k (min k 15))) (fun _ i _ => 16 - (intOf i).toNat)
  case atStart => exact ⟨0, by omega, rfl, h0⟩
  case round =>
    clear h0
    obtain ⟨k, hk, rfl, hA⟩ := hrel
    by_cases hlt : k < 16
    · have hc : ∃ v, wr.cell? ⟨b, k, none⟩ = some v := by
        rw [cell_of_row _ _ k _ 23 (0, 0) hA.out.row]
        have : (keyAt k).length = 16 := by simp [keyAt]
        exact ⟨_, keyV_get _ k (by omega)⟩
      obtain ⟨v0, hc⟩ := hc
      have hf : wr.frozen? ⟨b, k, none⟩ = false := frozen_of_row _ _ k _ 23 hA.out.row
      have hcv := conv_i64_u8 k (by omega)
      have hA1 := Lib.hid (hA.out.set hlt)
      clear hA
      by_cases h15 : k < 15
      · rw [show min k 15 = k by omega] at hA1
        have HO := Lib.hid hA1.out.own
        have hbnd : Hid (((casts (List.range k)).length + 1) * 1 ≤ 140737488355328) := by
          show ((casts (List.range k)).length + 1) * 1 ≤ 140737488355328
          rw [casts_length, List.length_range]; omega
        go_upto_region 7 with (fail)
        generalize wr.setCell ⟨b, k, none⟩ (.int .u8 k) = W4 at *
        go_wp2_with (at_builtin; refine append_one rfl _ _ 33 5 .u8 1 rfl Tryd.underlying33 info5 (by decide) u2 (casts (List.range k)) (k : Int) rfl rfl HO.out hbnd.out ?_; intro g3 c3 w3 ho3 hk3 hf3; have hs3 := Lib.hid (hA1.out.push ho3 hk3 hf3); clear ho3 hk3 hf3)
        go_roundw
        case rel => exact ⟨k + 1, by omega, by go_num, by rw [show min (k + 1) 15 = k + 1 by omega]; exact hs3⟩
        case measure => simp [intOf]; omega
      · go_wp2
        go_roundw
        case rel => exact ⟨k + 1, by omega, by go_num, by rw [show min (k + 1) 15 = min k 15 by omega]; exact hA1⟩
        case measure => simp [intOf]; omega
    · obtain rfl : k = 16 := by omega
      have hrow := hA.out.row
      have hown := hA.out.own
      rw [keyAt_all] at hrow
      rw [show min 16 15 = 15 from rfl] at hown
      have hcv : (convert 33 9 u2).run Tryd.prog wr = .ok (.string (strOfNums (casts (List.range 15)))) wr := own_string hown Tryd.underlying33 Tryd.underlying5 Tryd.underlying9
      have hS : Signs wr := HG.out.below hA.out.below
      have hbs : bs (strOfNums (casts (List.range 15))) = List.range 15 := bs_strOfNums _ (by intro c hc; have := List.mem_range.1 hc; omega)
      have hsm := sum_is (List.range 16) (by decide) (by intro c hc; have := List.mem_range.1 hc; omega) (strOfNums (casts (List.range 15))) (by rw [← bs_length, hbs]; decide) wr hS
      rw [hbs, awake_num] at hsm
      have hsm' : Calls Tryd.prog 18 #[.agg #[.int .u8 0, .int .u8 1, .int .u8 2, .int .u8 3, .int .u8 4, .int .u8 5, .int .u8 6, .int .u8 7, .int .u8 8, .int .u8 9, .int .u8 10, .int .u8 11, .int .u8 12, .int .u8 13, .int .u8 14, .int .u8 15], .string (strOfNums (casts (List.range 15)))] wr fun e w' => e = .returned (.int .u64 11613035633349379557) ∧ Below wr.heap.size wr w' := hsm
      have c0 : wr.cell? ⟨b, 0, none⟩ = some (.int .u8 0) := cell_of_row _ _ 0 _ 23 (0, 0) hrow
      have c1 : wr.cell? ⟨b, 1, none⟩ = some (.int .u8 1) := cell_of_row _ _ 1 _ 23 (0, 0) hrow
      have c2 : wr.cell? ⟨b, 2, none⟩ = some (.int .u8 2) := cell_of_row _ _ 2 _ 23 (0, 0) hrow
      have c3 : wr.cell? ⟨b, 3, none⟩ = some (.int .u8 3) := cell_of_row _ _ 3 _ 23 (0, 0) hrow
      have c4 : wr.cell? ⟨b, 4, none⟩ = some (.int .u8 4) := cell_of_row _ _ 4 _ 23 (0, 0) hrow
      have c5 : wr.cell? ⟨b, 5, none⟩ = some (.int .u8 5) := cell_of_row _ _ 5 _ 23 (0, 0) hrow
      have c6 : wr.cell? ⟨b, 6, none⟩ = some (.int .u8 6) := cell_of_row _ _ 6 _ 23 (0, 0) hrow
      have c7 : wr.cell? ⟨b, 7, none⟩ = some (.int .u8 7) := cell_of_row _ _ 7 _ 23 (0, 0) hrow
      have c8 : wr.cell? ⟨b, 8, none⟩ = some (.int .u8 8) := cell_of_row _ _ 8 _ 23 (0, 0) hrow
      have c9 : wr.cell? ⟨b, 9, none⟩ = some (.int .u8 9) := cell_of_row _ _ 9 _ 23 (0, 0) hrow
      have c10 : wr.cell? ⟨b, 10, none⟩ = some (.int .u8 10) := cell_of_row _ _ 10 _ 23 (0, 0) hrow
      have c11 : wr.cell? ⟨b, 11, none⟩ = some (.int .u8 11) := cell_of_row _ _ 11 _ 23 (0, 0) hrow
      have c12 : wr.cell? ⟨b, 12, none⟩ = some (.int .u8 12) := cell_of_row _ _ 12 _ 23 (0, 0) hrow
      have c13 : wr.cell? ⟨b, 13, none⟩ = some (.int .u8 13) := cell_of_row _ _ 13 _ 23 (0, 0) hrow
      have c14 : wr.cell? ⟨b, 14, none⟩ = some (.int .u8 14) := cell_of_row _ _ 14 _ 23 (0, 0) hrow
      have c15 : wr.cell? ⟨b, 15, none⟩ = some (.int .u8 15) := cell_of_row _ _ 15 _ 23 (0, 0) hrow
      obtain ⟨T, hT⟩ : ∃ T, T = strOfNums (casts (List.range 15)) := ⟨_, rfl⟩
      rw [← hT] at hcv hsm'
      have HB := Lib.hid hA.out.below
      clear hrow hown hS hbs hsm hT hA HG
      go_wp2_with (go_at_call 18; (with_reducible refine hsm'.mono ?_); rintro e w8 ⟨rfl, hb8⟩; have HB8 := Lib.hid hb8; clear hb8)
      go_ret
      exact ⟨rfl, HB.out.trans (HB8.out.mono HB.out.size)⟩
end Go.Proofs.YthmiomncgkmnoaaDoor
