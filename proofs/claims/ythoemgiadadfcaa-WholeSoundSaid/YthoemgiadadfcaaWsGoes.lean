/- The walk of belfrytop.goes. -/
import Derived.Test.YthoemgiadadfcaaWsSplit
set_option linter.unusedVariables false
set_option linter.unusedSimpArgs false
namespace Go.Proofs.Ythoemgiadadfcaa
open Go.RowKit Go.Sort Ws
set_option maxRecDepth 100000 in
set_option maxHeartbeats 2000000 in
theorem turn13_is (w : World) : Calls Try.prog 9 #[.int .u64 1, .int .i64 3] w fun e w' => e = .returned (.int .u64 8) ∧ ∃ k, w' = w.drewN k := by
  go_enter Try.func9, Try.ntmps9
  go_wp2
  go_quiet (fail)
  go_wp2
  go_ret
  exact ⟨by first | rfl | decide, _, rfl⟩
set_option maxRecDepth 100000 in
set_option maxHeartbeats 2000000 in
theorem turn83_is (w : World) : Calls Try.prog 9 #[.int .u64 8, .int .i64 (-3)] w fun e w' => e = .returned (.int .u64 1) ∧ ∃ k, w' = w.drewN k := by
  go_enter Try.func9, Try.ntmps9
  go_wp2
  go_quiet (fail)
  go_wp2
  go_ret
  exact ⟨by first | rfl | decide, _, rfl⟩
set_option maxRecDepth 100000 in
set_option maxHeartbeats 2000000 in
theorem goes_is (w : World) : Calls Try.prog 4 #[] w fun e w' => e = .returned (.bool true) ∧ ∃ k, w' = w.drewN k := by
  have h1 := turn13_is w
  have h2 := fun w => turn83_is w
  go_enter Try.func4, Try.ntmps4
  go_wp2_with (first | (go_at_call 9; (with_reducible refine h1.mono ?_); rintro e w1 ⟨rfl, k1, rfl⟩; clear h1) | (go_at_call 9; (with_reducible refine (h2 _).mono ?_); rintro e w1 ⟨rfl, k2, rfl⟩; clear h2))
  go_ret
  exact ⟨rfl, _, rfl⟩
end Go.Proofs.Ythoemgiadadfcaa
