/- The walk of the law BitsNil. -/
import Derived.Test.YthhfogpkaeminaaBitsZero
namespace Go.Proofs.Ythhfogpkaeminaa
open Go.RowKit Go.Sort
set_option maxRecDepth 100000 in
set_option maxHeartbeats 1000000 in
theorem bitsNil_walk (n : Int) (w : World) (hn : (Lit.int .u8 n).wf = true) :
    Calls Try.prog 10 #[.int .u8 n] w fun e w' => e = .returned (.bool true) ∧ Below w.heap.size w w' := by
  have hb0 := Below.refl w.heap.size w
  have hn' : 0 ≤ n ∧ n ≤ 255 := by simp only [Lit.wf, Bool.and_eq_true, decide_eq_true_eq] at hn; exact hn
  clear hn
  obtain ⟨a, rfl⟩ := Int.eq_ofNat_of_zero_le hn'.1
  obtain ⟨M, hM⟩ : ∃ M : Nat, (a : Int) % 57 = M := ⟨a % 57, by omega⟩
  have hM1 : M ≤ 56 := by omega
  obtain ⟨_, hn1⟩ := hn'
  have hget : ∀ W, Calls Try.prog 27 #[.pointer none, .int .i64 ((a : Int) % 57)] W fun e w' => e = .returned (.tuple #[.int .i64 0, .int .i64 2]) ∧ W = w' := fun W => by rw [hM]; exact get_nil M hM1 W
  clear hM
  go_enter Try.func10, Try.ntmps10
  go_wp2_with (first | (go_at_call 27; (with_reducible refine (hget _).mono ?_); rintro e w' ⟨rfl, rfl⟩) | (go_at_call 17; (with_reducible refine (on_base (by assumption) (bitsAwake_is _)).mono ?_); rintro e w1 ⟨rfl, hb1⟩) | (go_at_call 18; (with_reducible refine (put_nil _ _ _).mono ?_); rintro e w' ⟨rfl, rfl⟩) | (go_at_call 20; (with_reducible refine (bits_nil _).mono ?_); rintro e w' ⟨rfl, rfl⟩) | (go_at_call 19; (with_reducible refine (bytes_nil _).mono ?_); rintro e w' ⟨rfl, rfl⟩) | (go_at_call 28; (with_reducible refine (left_nil _).mono ?_); rintro e w' ⟨rfl, rfl⟩) | (go_at_call 29; (with_reducible refine (zeros_nil _).mono ?_); rintro e w' ⟨rfl, rfl⟩))
  go_ret
  exact ⟨rfl, by assumption⟩
end Go.Proofs.Ythhfogpkaeminaa
