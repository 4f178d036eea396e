/- The walk of the law FieldSquares. -/
import Derived.Test.YthponlnklmhbeaaFieldLaws
set_option linter.unusedVariables false
set_option linter.unusedSimpArgs false
namespace Go.Proofs.Ythponlnklmhbeaa
open Go.RowKit Go.Sort F7
theorem powI_two (x : Nat) (h : x < 128) : powI x 2 = mul x x := by
  unfold powI
  rw [if_neg (by decide)]
  by_cases h0 : x = 0
  · subst h0; rw [if_pos rfl, zero_mul]
  · rw [if_neg h0]; unfold mul; rw [if_neg (by omega)]
    apply ex_cong; rw [show r127 2 = 2 by decide]; omega
theorem powI_lt (x : Nat) (n : Int) : powI x n < 128 := by
  unfold powI; split
  · omega
  · split
    · omega
    · exact ex_lt _
theorem sq_root (x : Nat) (h : x < 128) : mul (powI x 64) (powI x 64) = x := by
  unfold powI
  rw [if_neg (by decide)]
  by_cases h0 : x = 0
  · subst h0; rw [if_pos rfl, zero_mul]
  · rw [if_neg h0, mul_ex]
    conv => rhs; rw [← ex_lg x h h0]
    apply ex_cong; rw [show r127 64 = 64 by decide]; omega
theorem sq_xor (x y : Nat) (hx : x < 128) (hy : y < 128) : mul (x ^^^ y) (x ^^^ y) = mul x x ^^^ mul y y := by
  rw [mul_xor _ x y (xor_lt x y hx hy) hx hy, xor_mul x x y hx hx hy, xor_mul y x y hy hx hy, mul_comm y x]
  have : ∀ a b c : Nat, a ^^^ b ^^^ (b ^^^ c) = a ^^^ c := fun a b c => by
    rw [Nat.xor_assoc, ← Nat.xor_assoc b b c, Nat.xor_self, Nat.zero_xor]
  exact this _ _ _
theorem sq_inj (x y : Nat) (hx : x < 128) (hy : y < 128) (h : mul x x = mul y y) : x = y := by
  have h1 : mul (x ^^^ y) (x ^^^ y) = 0 := by rw [sq_xor x y hx hy, h, Nat.xor_self]
  have h2 : x ^^^ y = 0 := by rcases (mul_eq_zero _ _ (xor_lt x y hx hy) (xor_lt x y hx hy)).1 h1 with h | h <;> exact h
  have h3 : (x ^^^ y) ^^^ y = 0 ^^^ y := by rw [h2]
  rw [Nat.xor_assoc, Nat.xor_self, Nat.xor_zero, Nat.zero_xor] at h3
  exact h3
theorem powN (b : Nat) {p : Nat} (n : Int) (hp : p < 128) (w : World) (h : Fd w b) : Calls Try.prog 22 #[.pointer (some ⟨b, 0, none⟩), .int .i64 p, .int .i64 n] w fun e w' => e = .returned (.int .i64 (powI p n)) ∧ ∃ k, w' = w.drewN k := by
  have := pow_is b p n w h
  rw [r7_nat hp] at this
  exact this
set_option maxRecDepth 100000 in
set_option maxHeartbeats 2000000 in
theorem fieldSquares_walk (n0 n1 : Int) (w : World) (h0 : (Lit.int .u8 n0).wf = true) (h1 : (Lit.int .u8 n1).wf = true) :
    Calls Try.prog 6 #[.int .u8 n0, .int .u8 n1] w fun e w' => e = .returned (.bool true) ∧ Below w.heap.size w w' := by
  obtain ⟨A0, x, rfl, hA0, hx, hxl⟩ := u8_rest n0 h0
  obtain ⟨A1, y, rfl, hA1, hy, hyl⟩ := u8_rest n1 h1
  clear h0 h1
  have hb0 := Below.refl w.heap.size w
  have hxor := xor_i64 x y (by omega) (by omega)
  have c1 := fun b => powN b 64 hxl
  have c2 := fun b => powN b 2 (xor_lt x y hxl hyl)
  have c3 := fun b => powN b 2 hxl
  have c4 := fun b => powN b 2 hyl
  have c5 := fun b => mulN b (powI_lt x 64) (powI_lt x 64)
  rw [sq_root x hxl] at c5
  rw [powI_two _ (xor_lt x y hxl hyl), sq_xor x y hxl hyl] at c2
  rw [powI_two _ hxl] at c3
  rw [powI_two _ hyl] at c4
  have hx2 := xor_i64 (mul x x) (mul y y) (by have := mul_lt x x; omega) (by have := mul_lt y y; omega)
  have e2 : (((mul x x : Nat) : Int) == ((mul y y : Nat) : Int)) = ((x : Int) == (y : Int)) := by
    by_cases e : x = y
    · subst e; rw [beq_self_eq_true, beq_self_eq_true]
    · have a1 : ((mul x x : Nat) : Int) ≠ (mul y y : Nat) := fun h => e (sq_inj x y hxl hyl (by omega))
      have a2 : (x : Int) ≠ y := by omega
      rw [beq_eq_false_iff_ne.2 a1, beq_eq_false_iff_ne.2 a2]
  obtain ⟨R, hR⟩ : ∃ R, R = powI x 64 := ⟨_, rfl⟩
  obtain ⟨D, hD⟩ : ∃ D, D = x ^^^ y := ⟨_, rfl⟩
  obtain ⟨X2, hX2⟩ : ∃ X2, X2 = mul x x := ⟨_, rfl⟩
  obtain ⟨Y2, hY2⟩ : ∃ Y2, Y2 = mul y y := ⟨_, rfl⟩
  rw [← hX2] at c2 c3 hx2 e2
  rw [← hY2] at c2 c4 hx2 e2
  obtain ⟨S2, hS2⟩ : ∃ S2, S2 = X2 ^^^ Y2 := ⟨_, rfl⟩
  rw [← hR] at c1 c5
  rw [← hD] at hxor c2
  rw [← hS2] at c2 hx2
  clear hR hD hX2 hY2 hS2
  go_enter Try.func6, Try.ntmps6
  go_wp2_with (first | (go_at_call 15; (with_reducible refine (on_base (by assumption) (fieldAwake_is _)).mono ?_); rintro e w1 ⟨rfl, hb1⟩) | (go_at_call 16; (with_reducible refine (new_on hb1).mono ?_); rintro e W ⟨b, rfl, hF, hbW⟩; have HF := Lib.hid hF; clear hF) | (go_at_call 22; (with_reducible refine (c1 b _ (by first | exact HF.out | exact HF.out.drewN _)).mono ?_); rintro e w2 ⟨rfl, k2, rfl⟩) | (go_at_call 22; (with_reducible refine (c2 b _ (by first | exact HF.out | exact HF.out.drewN _)).mono ?_); rintro e w2 ⟨rfl, k2, rfl⟩) | (go_at_call 22; (with_reducible refine (c3 b _ (by first | exact HF.out | exact HF.out.drewN _)).mono ?_); rintro e w2 ⟨rfl, k2, rfl⟩) | (go_at_call 22; (with_reducible refine (c4 b _ (by first | exact HF.out | exact HF.out.drewN _)).mono ?_); rintro e w2 ⟨rfl, k2, rfl⟩) | (go_at_call 17; (with_reducible refine (c5 b _ (by first | exact HF.out | exact HF.out.drewN _)).mono ?_); rintro e w2 ⟨rfl, k2, rfl⟩))
  go_ret
  exact ⟨rfl, below_new hbW _⟩
end Go.Proofs.Ythponlnklmhbeaa
