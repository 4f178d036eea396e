/- The walk of the law CrcMore. -/
import Derived.Test.YthhfogpkaeminaaCrcWalk
namespace Go.Proofs.Ythhfogpkaeminaa
open Go.RowKit
theorem crcMore_walk (r : Int) (s t : ByteArray) (w : World) (_wr : (Lit.int .i64 r).wf = true) (hs : s.size ≤ 140737488351232) (ht : t.size ≤ 140737488351232) :
    Calls Try.prog 3 #[.int .i64 r, .string s, .string t] w fun e w' => e = .returned (.bool true) ∧ Below w.heap.size w w' := by
  have hb0 := Below.refl w.heap.size w
  by_cases h1 : s.size ≤ 600 ∧ t.size ≤ 600
  · obtain ⟨h1, h2⟩ := h1
    have e1 : crcMore (crcSum s) t = crcSum (s ++ t) := crcMore_sum _ _ _
    have e2 : crcMore (crcMore r s) t = crcMore r (s ++ t) := crcMore_sum _ _ _
    have e3 : (s ++ t).size ≤ 1200 := by rw [ByteArray.size_append]; omega
    go_enter Try.func3, Try.ntmps3
    go_wp2_with (first | (go_at_call 14; refine (on_base (by assumption) (awake_is _)).mono ?_; rintro e w1 ⟨rfl, hb1⟩) | (go_at_call 15; refine (on_base (by assumption) (more_is _ _ (by omega) _)).mono ?_; rintro e w1 ⟨rfl, hb1⟩) | (go_at_call 16; refine (on_base (by assumption) (sum_is _ (by omega) _)).mono ?_; rintro e w1 ⟨rfl, hb1⟩))
    go_ret
    exact ⟨rfl, by assumption⟩
  · by_cases h2 : s.size ≤ 600
    all_goals
      go_enter Try.func3, Try.ntmps3
      go_wp2_with (go_at_call 14; refine (on_base (by assumption) (awake_is _)).mono ?_; rintro e w1 ⟨rfl, hb1⟩)
      go_ret
      exact ⟨rfl, by assumption⟩
end Go.Proofs.Ythhfogpkaeminaa
