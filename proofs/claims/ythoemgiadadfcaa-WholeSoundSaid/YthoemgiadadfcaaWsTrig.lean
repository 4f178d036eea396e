/- Square roots, the halves' cosines and sines, an angle's, its factors: their walks. -/
import Derived.Test.YthoemgiadadfcaaProg
import Derived.Test.YthoemgiadadfcaaCom
import Derived.Test.YthoemgiadadfcaaWsWheel
import Derived.Test.YthoemgiadadfcaaWsRow
import Derived.Test.YthoemgiadadfcaaQuietTail
import Derived.Lib.QuietBelow
import Derived.Deep.Cut
import Derived.Deep.DeepCutAuto
import Derived.BigRegion
import Derived.BigQuiet
import Derived.StillTailTactics
set_option linter.unusedVariables false
set_option linter.unusedSimpArgs false
namespace Go.Proofs.Ythoemgiadadfcaa
open Go.RowKit Go.Sort Ws
set_option maxRecDepth 100000 in
theorem root_is (n : Nat) (hn : 1 ≤ n) (hl : n < 4611686018427387904) (w : World) : Calls Try.prog 53 #[.int .i64 n] w fun e w' => e = .returned (.int .i64 (root n : Nat)) ∧ w' = w := by
  obtain ⟨R, hR⟩ : ∃ R, R = root n := ⟨_, rfl⟩
  rw [← hR]
  have HR := Lib.hid hR
  have b0 : bitAt 0 = 2147483648 := by decide +kernel
  have B0 := Lib.hid b0
  clear hR b0
  go_enter Try.func53, Try.ntmps53
  go_wp2
  go_loopw [3, 4] (fun o b wr => wr = w ∧ ∃ j : Nat, j ≤ 32 ∧ o = .int .i64 (rootF n j : Nat) ∧ b = .int .i64 (bitAt j : Nat)) (fun o b _ => (intOf b).toNat)
  case atStart => exact ⟨rfl, 0, by omega, rfl, by rw [B0.out]; rfl⟩
  case round =>
    obtain ⟨rfl, j, hj, rfl, rfl⟩ := hrel
    by_cases hlt : j < 32
    · have hp := bitAt_pos j hlt
      have hbl := bitAt_le j
      have hrl := rootF_le n j
      have hrl : rootF n j ≤ 68719476736 := by have : j * 2147483648 ≤ 32 * 2147483648 := Nat.mul_le_mul_right _ hj; omega
      have hbs := Lib.hid (bitAt_succ j)
      have hrs : rootF n (j + 1) = if rootF n j + bitAt j ≤ n / (rootF n j + bitAt j) then rootF n j + bitAt j else rootF n j := rfl
      generalize bitAt j = b at *
      generalize rootF n j = r at *
      have hq : (n : Int) / ((r : Int) + (b : Int)) = ((n / (r + b) : Nat) : Int) := by rw [Int.natCast_ediv, Int.natCast_add]
      have hql : n / (r + b) ≤ n := Nat.div_le_self _ _
      generalize n / (r + b) = q at *
      by_cases hc : r + b ≤ q
      · have hrs : Hid (rootF n (j + 1) = r + b) := by rw [if_pos hc] at hrs; exact hrs
        go_wp2
        go_roundw
        case rel => exact ⟨by first | trivial | rfl, j + 1, by omega, by rw [hrs.out]; go_num, by rw [hbs.out]; go_num⟩
        case measure => simp [intOf]; omega
      · have hrs : Hid (rootF n (j + 1) = r) := by rw [if_neg hc] at hrs; exact hrs
        go_wp2
        go_roundw
        case rel => exact ⟨by first | trivial | rfl, j + 1, by omega, by rw [hrs.out], by rw [hbs.out]; go_num⟩
        case measure => simp [intOf]; omega
    · obtain rfl : j = 32 := by omega
      rw [bitAt_32]
      go_wp2
      go_ret
      exact ⟨by rw [HR.out]; rfl, rfl⟩
end Go.Proofs.Ythoemgiadadfcaa
