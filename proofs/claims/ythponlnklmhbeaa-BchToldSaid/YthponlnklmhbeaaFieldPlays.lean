/- The walk of the law FieldPlays. -/
import Derived.Test.YthponlnklmhbeaaFieldLaws
import Derived.Test.YthponlnklmhbeaaFieldRef
set_option linter.unusedVariables false
set_option linter.unusedSimpArgs false
namespace Go.Proofs.Ythponlnklmhbeaa
open Go.RowKit Go.Sort F7
theorem powI_nat (x k : Nat) : powI x (k : Int) = pow x k := by
  unfold powI pow
  by_cases hk : k = 0
  · subst hk; rfl
  · rw [if_neg (by omega), if_neg hk]
    by_cases h0 : x = 0
    · rw [if_pos h0, if_pos h0]
    · rw [if_neg h0, if_neg h0]
      apply ex_cong
      have : r127 (k : Int) = k % 127 := by unfold r127; omega
      rw [this, Nat.mul_mod, Nat.mod_mod, ← Nat.mul_mod]
set_option maxRecDepth 100000 in
set_option maxHeartbeats 2000000 in
theorem fieldPlays_walk (n m c : Int) (w : World) (h0 : (Lit.int .i64 n).wf = true) (h1 : (Lit.int .i64 m).wf = true) (h2 : (Lit.int .u8 c).wf = true) :
    Calls Try.prog 7 #[.int .i64 n, .int .i64 m, .int .u8 c] w fun e w' => e = .returned (.bool true) ∧ Below w.heap.size w w' := by
  obtain ⟨A, k, rfl, hA, hk, hkl⟩ : ∃ A k : Nat, c = A ∧ A ≤ 255 ∧ (A : Int) % 200 = k ∧ k < 200 := by
    simp only [Lit.wf, Bool.and_eq_true, decide_eq_true_eq] at h2
    have h' : 0 ≤ c ∧ c ≤ 255 := h2
    exact ⟨c.toNat, c.toNat % 200, by omega, by omega, by omega, by omega⟩
  clear h0 h1 h2
  have hb0 := Below.refl w.heap.size w
  have c1 := fun b => mul_is b n m
  have r1 := fun w => refMul_is n m w
  have c2 := fun b => inv_is b n
  have r2 := fun w => refRest_is n w
  have r3 := fun w => refInv_is (r7 n) (r7_lt n) w
  have c3 := fun b => pow_is b n k
  rw [powI_nat] at c3
  have r4 := fun w => refPow_is n k (by omega) w
  have c4 := fun b => log_is b n
  have r5 := fun w => refLog_is n w
  have c5 := fun b => exp_is b k
  rw [r127_nat] at c5
  have r6 := fun w => refPow_is 2 k (by omega) w
  rw [show r7 2 = 2 by decide, pow_two] at r6
  obtain ⟨x, hx⟩ : ∃ x, x = r7 n := ⟨_, rfl⟩
  obtain ⟨y, hy⟩ : ∃ y, y = r7 m := ⟨_, rfl⟩
  rw [← hx, ← hy] at c1 r1
  rw [← hx] at c2 r2 r3 c3 r4 c4 r5
  obtain ⟨M, hM⟩ : ∃ M, M = mul x y := ⟨_, rfl⟩
  obtain ⟨I, hI⟩ : ∃ I, I = inv x := ⟨_, rfl⟩
  obtain ⟨P, hP⟩ : ∃ P, P = pow x k := ⟨_, rfl⟩
  obtain ⟨L, hL⟩ : ∃ L, L = lgI x := ⟨_, rfl⟩
  obtain ⟨X, hX⟩ : ∃ X, X = ex k := ⟨_, rfl⟩
  rw [← hM] at c1 r1
  rw [← hI] at c2 r3
  rw [← hP] at c3 r4
  rw [← hL] at c4 r5
  rw [← hX] at c5 r6
  clear hx hy hM hI hP hL hX
  go_enter Try.func7, Try.ntmps7
  go_wp2_with (first | (go_at_call 15; (with_reducible refine (on_base (by assumption) (fieldAwake_is _)).mono ?_); rintro e w1 ⟨rfl, hb1⟩) | (go_at_call 16; (with_reducible refine (new_on hb1).mono ?_); rintro e W ⟨b, rfl, hF, hbW⟩; have HF := Lib.hid hF; clear hF) | (go_at_call 17; (with_reducible refine (c1 b _ (by first | exact HF.out | exact HF.out.drewN _)).mono ?_); rintro e w2 ⟨rfl, k2, rfl⟩) | (go_at_call 18; (with_reducible refine (c2 b _ (by first | exact HF.out | exact HF.out.drewN _)).mono ?_); rintro e w2 ⟨rfl, k2, rfl⟩) | (go_at_call 22; (with_reducible refine (c3 b _ (by first | exact HF.out | exact HF.out.drewN _)).mono ?_); rintro e w2 ⟨rfl, k2, rfl⟩) | (go_at_call 21; (with_reducible refine (c4 b _ (by first | exact HF.out | exact HF.out.drewN _)).mono ?_); rintro e w2 ⟨rfl, k2, rfl⟩) | (go_at_call 20; (with_reducible refine (c5 b _ (by first | exact HF.out | exact HF.out.drewN _)).mono ?_); rintro e w2 ⟨rfl, k2, rfl⟩) | (go_at_call 23; (with_reducible refine (r1 _).mono ?_); rintro e v1 ⟨rfl, hv1⟩; have hv1 := hv1.symm; subst hv1) | (go_at_call 25; (with_reducible refine (r2 _).mono ?_); rintro e v1 ⟨rfl, hv1⟩; have hv1 := hv1.symm; subst hv1) | (go_at_call 24; (with_reducible refine (r3 _).mono ?_); rintro e v1 ⟨rfl, hv1⟩; have hv1 := hv1.symm; subst hv1) | (go_at_call 26; (with_reducible refine (r4 _).mono ?_); rintro e v1 ⟨rfl, hv1⟩; have hv1 := hv1.symm; subst hv1) | (go_at_call 27; (with_reducible refine (r5 _).mono ?_); rintro e v1 ⟨rfl, hv1⟩; have hv1 := hv1.symm; subst hv1) | (go_at_call 26; (with_reducible refine (r6 _).mono ?_); rintro e v1 ⟨rfl, hv1⟩; have hv1 := hv1.symm; subst hv1))
  go_ret
  exact ⟨rfl, below_new hbW _⟩
end Go.Proofs.Ythponlnklmhbeaa
