/- The middle and the side of two numbers, and back: the walks of mid.Of, Back. -/
import Derived.Test.YthoemgiadadfcaaWsIdx
set_option linter.unusedVariables false
set_option linter.unusedSimpArgs false
namespace Go.Proofs.Ythoemgiadadfcaa
open Go.RowKit Go.Sort Ws
theorem of_is (l r : Int) (hl : -1073741824 ≤ l ∧ l ≤ 1073741824) (hr : -1073741824 ≤ r ∧ r ≤ 1073741824) (w : World) : Calls Try.prog 12 #[.int .i64 l, .int .i64 r] w fun e w' => e = .returned (.tuple #[.int .i64 (r + (l - r) / 2), .int .i64 (l - r)]) ∧ w' = w := by
  obtain ⟨l1, l2⟩ := hl
  obtain ⟨r1, r2⟩ := hr
  go_enter Try.func12, Try.ntmps12
  go_wp2
  go_ret2
  exact ⟨rfl, rfl⟩
theorem midback_is (m s : Int) (hm : -1073741824 ≤ m ∧ m ≤ 1073741824) (hs : -1073741824 ≤ s ∧ s ≤ 1073741824) (w : World) : Calls Try.prog 18 #[.int .i64 m, .int .i64 s] w fun e w' => e = .returned (.tuple #[.int .i64 (m - s / 2 + s), .int .i64 (m - s / 2)]) ∧ w' = w := by
  obtain ⟨m1, m2⟩ := hm
  obtain ⟨s1, s2⟩ := hs
  go_enter Try.func18, Try.ntmps18
  go_wp2
  go_ret2
  exact ⟨rfl, rfl⟩
end Go.Proofs.Ythoemgiadadfcaa
