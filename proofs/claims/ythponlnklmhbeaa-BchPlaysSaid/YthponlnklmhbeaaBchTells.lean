/- The walk of bch.Is. -/
import Derived.Test.YthponlnklmhbeaaBchIs
set_option linter.unusedVariables false
set_option linter.unusedSimpArgs false
namespace Go.Proofs.Ythponlnklmhbeaa
open Go.RowKit Go.Sort F7
theorem part_syn (f : Nat → Bool) (j : Nat) (hj : j < 20) : (part f 127 0).getD j 0 = syn f (j + 1) := by
  rw [part_get f 127 0 j hj, if_neg (by omega)]; rfl
/-- Is a word a codeword? -/
def isB (f : Nat → Bool) : Bool := (List.range 20).all fun j => syn f (j + 1) == 0
theorem isB_all (f : Nat → Bool) : isB f = true ↔ ∀ j, j < 20 → syn f (j + 1) = 0 := by
  unfold isB
  rw [List.all_eq_true]
  constructor
  · intro h j hj
    simpa using h j (List.mem_range.2 hj)
  · intro h j hj
    simpa using h j (List.mem_range.1 hj)
theorem isB_cw (f : Nat → Bool) : isB f = true ↔ Cw f := by
  rw [isB_all]
  constructor
  · intro h j h1 h2
    have := h (j - 1) (by omega)
    rw [show j - 1 + 1 = j by omega] at this
    exact this
  · intro h j hj
    exact h (j + 1) (by omega) (by omega)
theorem isB_no (f : Nat → Bool) (j : Nat) (hj : j < 20) (h : syn f (j + 1) ≠ 0) : isB f = false := by
  cases hb : isB f with
  | false => rfl
  | true => exact absurd ((isB_all f).1 hb j hj) h
set_option maxRecDepth 100000 in
theorem is_is (f : Nat → Bool) (w : World) : Calls Try.prog 34 #[.agg (wordV f)] w fun e w' => e = .returned (.bool (isB f)) ∧ Below w.heap.size w w' := by
  have hs := fun w => syndromes_is f w
  obtain ⟨b0, hb0⟩ : ∃ b, b = w.heap.size := ⟨_, rfl⟩
  obtain ⟨W, hW⟩ : ∃ W, W = w.alloc (.cells (wordV f) 41) := ⟨_, rfl⟩
  have h1 : Wd 41 W b0 f := by rw [hW, hb0]; exact Wd.boxed w 41 f
  have HB : Hid (Below w.heap.size w W) := by show Below w.heap.size w W; rw [hW]; exact (Below.refl _ _).alloc (Nat.le_refl _) _
  have HW := Lib.hid hW
  have hb' := hb0.symm
  have hsz : (Try.prog.info? 41).map (·.size) = some (wordV f).size := by rw [wordV_size]; kernel_rfl
  have HSZ := Lib.hid hsz
  have hrow : W.heap[b0]? = some (.cells (wordV f) 41 (0, 0)) := h1
  have HROW := Lib.hid hrow
  have hyes : (∀ j, j < 20 → (part f 127 0).getD j 0 = 0) → isB f = true := fun h => (isB_all f).2 fun j hj => by rw [← part_syn f j hj]; exact h j hj
  have hno : ∀ j, j < 20 → (part f 127 0).getD j 0 ≠ 0 → isB f = false := fun j hj h => isB_no f j hj (by rw [← part_syn f j hj]; exact h)
  obtain ⟨P, hP⟩ : ∃ P, P = part f 127 0 := ⟨_, rfl⟩
  have hPl : P.length = 20 := by rw [hP]; exact part_length _ _ _
  rw [← hP] at hs hyes hno
  have HYES := Lib.hid hyes
  have HNO := Lib.hid hno
  have HPL := Lib.hid hPl
  clear hW hb0 hsz h1 hrow hP hPl hyes hno
  go_enter Try.func34, Try.ntmps34
  go_upto_region 1 with (fail)
  rw [← HW.out]
  clear HW hb'
  go_wp2_with (first | (refine wpList_load_row rfl 41 _ rfl b0 rfl 41 (wordV f) (0, 0) _ HROW.out Try.underlying41 rfl HSZ.out ?_) | (go_at_call 36; (with_reducible refine (hs _).mono ?_); rintro e w1 ⟨g, rfl, hr1, hb1, hg1⟩; have HR := Lib.hid (And.intro hr1 hb1); clear hr1 hb1 hg1))
  go_loop [8] (fun i => ∃ k : Nat, k ≤ 20 ∧ i = .int .i64 k ∧ Hid (∀ j, j < k → P.getD j 0 = 0)) (fun i => 20 - (intOf i).toNat)
  case atStart => exact ⟨0, by omega, rfl, Lib.hid (fun j hj => by omega)⟩
  case round =>
    obtain ⟨k, hk, rfl, hz⟩ := hrel
    by_cases hlt : k < 20
    · have hc := HR.out.1.at_ k (by rw [casts_length, HPL.out]; exact hlt)
      rw [casts_get] at hc
      obtain ⟨X, hX⟩ : ∃ X, X = P.getD k 0 := ⟨_, rfl⟩
      rw [← hX] at hc
      have HX := Lib.hid hX
      clear hX
      by_cases h0 : X = 0
      · have hN : Hid (∀ j, j < k + 1 → P.getD j 0 = 0) := fun j hj => by
          by_cases e : j = k
          · rw [e, ← HX.out, h0]
          · exact hz.out j (by omega)
        subst h0
        clear hz
        go_wp2
        go_round
        case rel => exact ⟨k + 1, by omega, by go_num, hN⟩
        case measure => simp [intOf]; omega
      · have hne : ((X : Int) == 0) = false := by rw [beq_eq_false_iff_ne]; omega
        have hne' : ((X : Int) != 0) = true := by simp; omega
        have hR : Hid (isB f = false) := HNO.out k hlt (by rw [← HX.out]; exact h0)
        clear h0
        go_wp2
        go_ret
        rw [hR.out]
        exact ⟨rfl, HB.out.trans (HR.out.2.mono HB.out.size)⟩
    · obtain rfl : k = 20 := by omega
      have hR : Hid (isB f = true) := HYES.out hz.out
      go_wp2
      go_ret
      rw [hR.out]
      exact ⟨rfl, HB.out.trans (HR.out.2.mono HB.out.size)⟩
end Go.Proofs.Ythponlnklmhbeaa
