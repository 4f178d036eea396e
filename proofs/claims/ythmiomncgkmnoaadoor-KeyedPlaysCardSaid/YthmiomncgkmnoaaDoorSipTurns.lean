/- The law SipTurns: its walk. -/
import Derived.Test.YthmiomncgkmnoaaDoorSipAwake
set_option linter.unusedVariables false
set_option linter.unusedSimpArgs false
namespace Go.Proofs.YthmiomncgkmnoaaDoor
open Go.RowKit Go.Sort Sip
theorem turn_there (x : Nat) (n : Int) (hx : x < 2 ^ 64) : rot (r64 (-n)) (rot (r64 n) x) = x := rot_back _ x hx _ (by unfold r64; omega)
theorem turn_sum (x : Nat) (n m : Int) (hx : x < 2 ^ 64) : rot (r64 (n + m)) x = rot (r64 m) (rot (r64 n) x) := by
  rw [← rot_add, ← rot_mod (r64 n + r64 m) x hx]
  congr 1
  unfold r64; omega
theorem turn_64 (n : Int) : r64 (n + 64) = r64 n := by unfold r64; omega
theorem wf_u64 {x : Int} (h : (Lit.int .u64 x).wf = true) : 0 ≤ x ∧ x < 18446744073709551616 := by
  simp only [Lit.wf, Bool.and_eq_true, decide_eq_true_eq] at h
  have h1 : IntKind.u64.min = 0 := rfl
  have h2 : IntKind.u64.max = 18446744073709551615 := rfl
  omega
theorem wf_u8 {x : Int} (h : (Lit.int .u8 x).wf = true) : 0 ≤ x ∧ x < 256 := by
  simp only [Lit.wf, Bool.and_eq_true, decide_eq_true_eq] at h
  have h1 : IntKind.u8.min = 0 := rfl
  have h2 : IntKind.u8.max = 255 := rfl
  omega
set_option maxRecDepth 100000 in
theorem sipTurns_walk (x n m : Int) (w : World) (hx : (Lit.int .u64 x).wf = true) (hn : (Lit.int .i64 n).wf = true) (hm : (Lit.int .i64 m).wf = true) (hg : Signs w) :
    Calls Tryd.prog 4 #[.int .u64 x, .int .i64 n, .int .i64 m] w fun e w' => e = .returned (.bool true) ∧ Below w.heap.size w w' := by
  have hx0 : 0 ≤ x ∧ x < 18446744073709551616 := wf_u64 hx
  obtain ⟨X, rfl⟩ : ∃ X : Nat, x = X := ⟨x.toNat, by omega⟩
  have hX : X < 2 ^ 64 := by have := hx0.2; omega
  obtain ⟨T, hT⟩ : ∃ T, T = Int.tmod n 1000000 := ⟨_, rfl⟩
  obtain ⟨M, hM⟩ : ∃ T, T = Int.tmod m 1000000 := ⟨_, rfl⟩
  have hT1 : -1000000 < T ∧ T < 1000000 := by rw [hT, Int.tmod_eq_emod]; split <;> omega
  have hM1 : -1000000 < M ∧ M < 1000000 := by rw [hM, Int.tmod_eq_emod]; split <;> omega
  have c1 := fun w => turn_is X T hX w
  have c2 := fun w => turn_is (rot (r64 T) X) (-T) (rot_lt _ _ hX) w
  have c3 := fun w => turn_is X (T + 64) hX w
  have c5 := fun w => turn_is (rot (r64 T) X) M (rot_lt _ _ hX) w
  have c6 := fun w => turn_is X (T + M) hX w
  rw [turn_there X T hX] at c2
  rw [turn_64] at c3
  rw [turn_sum X T M hX] at c6
  obtain ⟨Y, hY⟩ : ∃ Y, Y = rot (r64 T) X := ⟨_, rfl⟩
  rw [← hY] at c1 c2 c3 c5 c6
  obtain ⟨Z, hZ⟩ : ∃ Z, Z = rot (r64 M) Y := ⟨_, rfl⟩
  rw [← hZ] at c5 c6
  have ha := sipAwake_is w hg
  have hT' := hT.symm
  have hM' := hM.symm
  clear hT hM hY hZ hx hn hm hx0 hX hg
  obtain ⟨h1, h2⟩ := hT1
  obtain ⟨h3, h4⟩ := hM1
  go_enter Tryd.func4, Tryd.ntmps4
  go_wp2_with (first | (go_at_call 15; (with_reducible refine ha.mono ?_); rintro e w1 ⟨rfl, hb⟩; have HB := Lib.hid hb; clear hb) | (go_at_call 20; (with_reducible refine (c1 _).mono ?_); rintro e w1 ⟨rfl, k1, rfl⟩) | (go_at_call 20; (with_reducible refine (c2 _).mono ?_); rintro e w1 ⟨rfl, k1, rfl⟩) | (go_at_call 20; (with_reducible refine (c3 _).mono ?_); rintro e w1 ⟨rfl, k1, rfl⟩) | (go_at_call 20; (with_reducible refine (c5 _).mono ?_); rintro e w1 ⟨rfl, k1, rfl⟩) | (go_at_call 20; (with_reducible refine (c6 _).mono ?_); rintro e w1 ⟨rfl, k1, rfl⟩))
  go_ret
  exact ⟨rfl, below_drewN' HB.out _⟩
end Go.Proofs.YthmiomncgkmnoaaDoor
