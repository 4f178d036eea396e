/- The document's frame, bit: their walks. -/
import Derived.Test.YthmiomncgkmnoaaDoorKeyChipsIs
set_option linter.unusedVariables false
set_option linter.unusedSimpArgs false
namespace Go.Proofs.YthmiomncgkmnoaaDoor
open Go.RowKit Go.Sort Sip Kd
theorem refFrame_is (n : Int) (w : World) : Calls Tryd.prog 36 #[.int .i64 n] w fun e w' => e = .returned (.int .i64 (fr n : Nat)) ∧ w' = w := by
  obtain ⟨T, hT⟩ : ∃ T, T = Int.tmod n 1016 := ⟨_, rfl⟩
  have h2 : -1016 < T ∧ T < 1016 ∧ (T < 0 → T + 1016 = n % 1016) ∧ (0 ≤ T → T = n % 1016) := by
    rw [hT, Int.tmod_eq_emod]
    split <;> omega
  obtain ⟨h3, h4, h5, h6⟩ := h2
  have h7 : (fr n : Int) = n % 1016 := by unfold fr; omega
  rw [← h7] at h5 h6
  have hd : n.tmod 1016 = T := hT.symm
  clear h7 hT
  obtain ⟨X, hX⟩ : ∃ X, X = fr n := ⟨_, rfl⟩
  rw [← hX] at h5 h6
  rw [← hX]
  clear hX
  by_cases hn : T < 0
  · have e := h5 hn
    clear h5 h6
    go_enter Tryd.func36, Tryd.ntmps36
    go_wp2
    go_ret
    exact ⟨by first | rfl | (rw [e]; rfl), rfl⟩
  · have e := h6 (by omega)
    have HE := Lib.hid e
    clear h5 h6 e
    go_enter Tryd.func36, Tryd.ntmps36
    go_wp2
    go_ret
    exact ⟨by first | rfl | (rw [HE.out]; rfl), rfl⟩
set_option maxRecDepth 100000 in
theorem refBit_is (x k : Nat) (hx : x < 2 ^ 64) (hk : k < 64) (w : World) : Calls Tryd.prog 47 #[.int .u64 x, .int .i64 k] w fun e w' => e = .returned (.int .i64 (if x.testBit k = true then 1 else 0)) ∧ w' = w := by
  have HX := Lib.hid hx
  obtain ⟨V, hV⟩ : ∃ V : Int, V = if x.testBit k = true then 1 else 0 := ⟨_, rfl⟩
  rw [← hV]
  have HV := Lib.hid hV
  clear hx hV
  go_enter Tryd.func47, Tryd.ntmps47
  go_wp2
  go_loopw [0, 5] (fun y i wr => wr = w ∧ ∃ m : Nat, m ≤ k ∧ i = .int .i64 m ∧ y = .int .u64 (x / 2 ^ m : Nat)) (fun _ i _ => k - (intOf i).toNat)
  case atStart => exact ⟨rfl, 0, by omega, rfl, by rw [Nat.pow_zero, Nat.div_one]⟩
  case round =>
    obtain ⟨rfl, m, hm, rfl, rfl⟩ := hrel
    by_cases hlt : m < k
    · have hnx : x / 2 ^ (m + 1) = x / 2 ^ m / 2 := by rw [Nat.pow_succ, Nat.div_div_eq_div_mul]
      obtain ⟨Y, hY⟩ : ∃ Y, Y = x / 2 ^ m := ⟨_, rfl⟩
      have hYl : Y < 2 ^ 64 := by rw [hY]; exact Nat.lt_of_le_of_lt (Nat.div_le_self _ _) HX.out
      rw [← hY] at hnx
      rw [← hY]
      have hZY : Hid (Value.int .u64 ((Y : Int) / 2) = .int .u64 ((x / 2 ^ (m + 1) : Nat) : Int)) := by show _ = _; rw [hnx]; congr 1
      clear hY hnx
      go_wp2
      go_roundw
      case rel => exact ⟨by first | trivial | rfl, m + 1, by omega, by go_num, hZY.out⟩
      case measure => simp [intOf]; omega
    · obtain rfl : k = m := by omega
      have hbit : x.testBit k = decide (x / 2 ^ k % 2 = 1) := Nat.testBit_eq_decide_div_mod_eq
      obtain ⟨Y, hY⟩ : ∃ Y, Y = x / 2 ^ k := ⟨_, rfl⟩
      have hYl : Y < 2 ^ 64 := by rw [hY]; exact Nat.lt_of_le_of_lt (Nat.div_le_self _ _) HX.out
      rw [← hY] at hbit
      rw [← hY]
      clear hY
      have HB := Lib.hid hbit
      clear hbit
      by_cases h1 : Y % 2 = 1
      · have hY2 : (Y : Int) % 2 = 1 := by omega
        have hT : Hid (x.testBit k = true) := by show _ = _; rw [HB.out, h1]; rfl
        clear HB h1
        go_wp2
        go_ret
        rw [HV.out, if_pos hT.out]
        exact ⟨rfl, rfl⟩
      · have hY2 : (Y : Int) % 2 = 0 := by omega
        have hT : Hid (x.testBit k = false) := by show _ = _; rw [HB.out]; exact decide_eq_false h1
        clear HB h1
        go_wp2
        go_ret
        rw [HV.out, if_neg (by rw [hT.out]; decide)]
        exact ⟨rfl, rfl⟩
end Go.Proofs.YthmiomncgkmnoaaDoor
