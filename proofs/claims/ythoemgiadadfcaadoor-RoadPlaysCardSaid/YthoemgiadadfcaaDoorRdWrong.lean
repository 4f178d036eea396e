/- What is wrong with an act, as the document has it: its walk. -/
import Derived.Test.YthoemgiadadfcaaDoorRdRead
set_option linter.unusedVariables false
set_option linter.unusedSimpArgs false
namespace Go.Proofs.YthoemgiadadfcaaDoor
open Go.RowKit Go.Sort Rd
theorem nums_le (k : Nat) : nums k ≤ 3 := by
  match k with
  | 0 | 1 | 2 | 3 | 4 => decide
  | n + 5 => exact Nat.zero_le _
set_option maxRecDepth 100000 in
set_option maxHeartbeats 3200000 in
theorem refWrong_is (x : Ac) (w : World) : Calls Tryd.prog 18 #[.agg #[.string x.w, .int .i64 x.a, .int .i64 x.b, .int .i64 x.c]] w fun e w' => e = .returned (.int .i64 (wrg x)) ∧ Below w.heap.size w w' := by
  obtain ⟨xw, xa, xb, xc⟩ := x
  have hb1 : Below w.heap.size w (w.alloc (.cells #[.string xw, .int .i64 xa, .int .i64 xb, .int .i64 xc] 29)) := (Below.refl _ _).alloc (Nat.le_refl _) _
  have hn1 : (w.alloc (.cells #[.string xw, .int .i64 xa, .int .i64 xb, .int .i64 xc] 29)).heap[w.heap.size]? = some (.cells #[.string xw, .int .i64 xa, .int .i64 xb, .int .i64 xc] 29 (0, 0)) := heap_alloc_new w _
  have hm := nums_le (kd xw)
  have HN := Lib.hid (fun W => numbers_is xw W)
  by_cases hk : kd xw < 5
  · have HNN : Hid (∀ W, Calls Tryd.prog 28 #[.string xw] W fun e w' => e = .returned (.int .i64 (nums (kd xw))) ∧ w' = W) := fun W => (HN.out W).mono fun e w' h => by
      have : numR xw = nums (kd xw) := if_pos hk
      rw [this] at h; exact h
    have hcell : ∀ k, k < 3 → (w.alloc (.cells #[.string xw, .int .i64 xa, .int .i64 xb, .int .i64 xc] 29)).cell? ⟨w.heap.size, 1 + k, none⟩ = some (.int .i64 (at3 ⟨xw, xa, xb, xc⟩ k)) := fun k hk3 => by
      match k, hk3 with
      | 0, _ => exact cell_of_row _ _ 1 _ 29 (0, 0) hn1
      | 1, _ => exact cell_of_row _ _ 2 _ 29 (0, 0) hn1
      | 2, _ => exact cell_of_row _ _ 3 _ 29 (0, 0) hn1
    have c0 : (w.alloc (.cells #[.string xw, .int .i64 xa, .int .i64 xb, .int .i64 xc] 29)).cell? ⟨w.heap.size, 0, none⟩ = some (.string xw) := cell_of_row _ _ 0 _ 29 (0, 0) hn1
    have HC := Lib.hid hcell
    have HB := Lib.hid hb1
    clear hcell hn1 hb1 HN
    go_enter Tryd.func18, Tryd.ntmps18
    go_wp2_with (go_at_call 28; (with_reducible refine (HNN.out _).mono ?_); rintro e w1 ⟨rfl, h9⟩; subst h9; clear HNN)
    clear c0
    obtain ⟨wc, hwc⟩ : ∃ wc, wc = w.alloc (.cells #[.string xw, .int .i64 xa, .int .i64 xb, .int .i64 xc] 29) := ⟨_, rfl⟩
    rw [← hwc] at HC HB ⊢
    clear hwc
    go_loop [4] (fun i => ∃ k : Nat, k ≤ 3 ∧ i = .int .i64 k ∧ ∀ j, j < k → ¬ badN (nums (kd xw)) j (at3 ⟨xw, xa, xb, xc⟩ j)) (fun i => 3 - (intOf i).toNat)
    case atStart => exact ⟨0, Nat.zero_le _, rfl, fun j hj => absurd hj (Nat.not_lt_zero _)⟩
    case round =>
      obtain ⟨k, hk3, rfl, hno⟩ := hrel
      have HNO := Lib.hid hno
      clear hno
      by_cases hlt : k < 3
      · obtain ⟨v, hv⟩ : ∃ v, v = at3 ⟨xw, xa, xb, xc⟩ k := ⟨_, rfl⟩
        have hix := HC.out k hlt
        rw [← hv] at hix
        have HV := Lib.hid hv
        clear hv
        have hbadR : badN (nums (kd xw)) k v → wrg ⟨xw, xa, xb, xc⟩ = 7 := fun h => wr_bad _ (by show ¬ 5 ≤ kd xw; omega) k hlt (by rw [← HV.out]; exact h)
        have hgood : ¬ badN (nums (kd xw)) k v → ∀ j, j < k + 1 → ¬ badN (nums (kd xw)) j (at3 ⟨xw, xa, xb, xc⟩ j) := fun h j hj => by
          by_cases hjk : j = k
          · subst hjk; rw [← HV.out]; exact h
          · exact HNO.out j (by omega)
        by_cases hA : v < -9007199254740992
        · have HR := Lib.hid (hbadR (.inl hA))
          clear hbadR hgood
          go_wp2_with fail
          go_ret
          exact ⟨by rw [HR.out]; rfl, HB.out⟩
        by_cases hB : 9007199254740992 < v
        · have HR := Lib.hid (hbadR (.inr (.inl hB)))
          clear hbadR hgood
          go_wp2_with fail
          go_ret
          exact ⟨by rw [HR.out]; rfl, HB.out⟩
        by_cases hC : nums (kd xw) ≤ k
        · by_cases hD : v = 0
          · have HG := Lib.hid (hgood (by rintro (h | h | h); exact hA h; exact hB h; exact h.2 hD))
            have hD0 : (v != 0) = false := by simp [hD]
            clear hbadR hgood hD
            go_wp2_with fail
            go_round
            case rel => exact ⟨k + 1, by omega, by go_num, HG.out⟩
            case measure => simp [intOf]; omega
          · have HR := Lib.hid (hbadR (.inr (.inr ⟨hC, hD⟩)))
            have hD0 : (v != 0) = true := by simpa using hD
            clear hbadR hgood
            go_wp2_with fail
            go_ret
            exact ⟨by rw [HR.out]; rfl, HB.out⟩
        · have HG := Lib.hid (hgood (by rintro (h | h | h); exact hA h; exact hB h; exact hC h.1))
          have hC0 : decide (nums (kd xw) ≤ k) = false := decide_eq_false hC
          clear hbadR hgood
          go_wp2_with fail
          go_round
          case rel => exact ⟨k + 1, by omega, by go_num, HG.out⟩
          case measure => simp [intOf]; omega
      · have HR : Hid (wrg ⟨xw, xa, xb, xc⟩ = 0) := wr_ok _ (by show ¬ 5 ≤ kd xw; omega) (fun j hj => HNO.out j (by omega))
        go_wp2_with fail
        go_ret
        exact ⟨by rw [HR.out]; rfl, HB.out⟩
  · have HNN : Hid (∀ W, Calls Tryd.prog 28 #[.string xw] W fun e w' => e = .returned (.int .i64 (-1)) ∧ w' = W) := fun W => (HN.out W).mono fun e w' h => by
      have : numR xw = -1 := if_neg hk
      rw [this] at h; exact h
    have c0 : (w.alloc (.cells #[.string xw, .int .i64 xa, .int .i64 xb, .int .i64 xc] 29)).cell? ⟨w.heap.size, 0, none⟩ = some (.string xw) := cell_of_row _ _ 0 _ 29 (0, 0) hn1
    have HR : Hid (wrg ⟨xw, xa, xb, xc⟩ = 10) := by show _ = _; unfold wrg; rw [if_pos (show 5 ≤ kd xw by omega)]
    have HB := Lib.hid hb1
    clear hn1 hb1 HN
    go_enter Tryd.func18, Tryd.ntmps18
    go_wp2_with (go_at_call 28; (with_reducible refine (HNN.out _).mono ?_); rintro e w1 ⟨rfl, h9⟩; subst h9; clear HNN)
    go_ret
    exact ⟨by rw [HR.out]; rfl, HB.out⟩
end Go.Proofs.YthoemgiadadfcaaDoor
