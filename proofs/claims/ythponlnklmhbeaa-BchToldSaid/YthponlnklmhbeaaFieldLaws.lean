/- The walk of the law FieldLaws. -/
import Derived.Test.YthponlnklmhbeaaFieldWalk
set_option linter.unusedVariables false
set_option linter.unusedSimpArgs false
namespace Go.Proofs.Ythponlnklmhbeaa
open Go.RowKit Go.Sort F7
set_option maxRecDepth 100000 in
theorem fieldAwake_is (w : World) : Calls Try.prog 15 #[] w fun e w' => e = .returned (.bool true) ∧ Below w.heap.size w w' := by
  have h9 : mul (r7 64) (r7 2) = 9 := by decide +kernel
  have hm := fun b w h => mul_is b 64 2 w h
  rw [h9] at hm
  clear h9
  go_enter Try.func15, Try.ntmps15
  go_wp2_with (first | (go_at_call 16; (with_reducible refine (new_is _).mono ?_); rintro e w1 ⟨b, rfl, hF1, hb, hb1⟩) | (go_at_call 17; (with_reducible refine (hm _ _ hF1).mono ?_); rintro e w2 ⟨rfl, k2, rfl⟩))
  go_ret
  exact ⟨rfl, hb1.trans ((below_drewN _ _).mono hb1.size)⟩
theorem new_on {w0 w : World} (hb : Below w0.heap.size w0 w) : Calls Try.prog 16 #[] w fun e w' => ∃ b, e = .returned (.pointer (some ⟨b, 0, none⟩)) ∧ Fd w' b ∧ Below w0.heap.size w0 w' :=
  (new_is w).mono fun _ _ ⟨b, h1, h2, _, h4⟩ => ⟨b, h1, h2, hb.trans (h4.mono hb.size)⟩
theorem r7_nat {x : Nat} (h : x < 128) : r7 (x : Int) = x := by unfold r7; omega
theorem mulN (b : Nat) {p q : Nat} (hp : p < 128) (hq : q < 128) (w : World) (h : Fd w b) : Calls Try.prog 17 #[.pointer (some ⟨b, 0, none⟩), .int .i64 p, .int .i64 q] w fun e w' => e = .returned (.int .i64 (mul p q)) ∧ ∃ k, w' = w.drewN k := by
  have := mul_is b p q w h
  rw [r7_nat hp, r7_nat hq] at this
  exact this
theorem invN (b : Nat) {p : Nat} (hp : p < 128) (w : World) (h : Fd w b) : Calls Try.prog 18 #[.pointer (some ⟨b, 0, none⟩), .int .i64 p] w fun e w' => e = .returned (.int .i64 (inv p)) ∧ ∃ k, w' = w.drewN k := by
  have := inv_is b p w h
  rw [r7_nat hp] at this
  exact this
theorem below_new {w w1 : World} (h : Below w.heap.size w w1) (k : Nat) : Below w.heap.size w (w1.drewN k) := h.trans ((below_drewN _ _).mono h.size)
theorem u8_rest (n : Int) (h : (Lit.int .u8 n).wf = true) : ∃ a x : Nat, n = a ∧ a ≤ 255 ∧ (a : Int) % 128 = x ∧ x < 128 := by
  simp only [Lit.wf, Bool.and_eq_true, decide_eq_true_eq] at h
  have h' : 0 ≤ n ∧ n ≤ 255 := h
  exact ⟨n.toNat, n.toNat % 128, by omega, by omega, by omega, by omega⟩
theorem mulZ (b : Nat) (q : Int) (w : World) (h : Fd w b) : Calls Try.prog 17 #[.pointer (some ⟨b, 0, none⟩), .int .i64 0, .int .i64 q] w fun e w' => e = .returned (.int .i64 0) ∧ ∃ k, w' = w.drewN k := by
  have := mul_is b 0 q w h
  rw [show r7 0 = 0 by decide, zero_mul] at this
  exact this
theorem mulZ' (b : Nat) (q : Int) (w : World) (h : Fd w b) : Calls Try.prog 17 #[.pointer (some ⟨b, 0, none⟩), .int .i64 q, .int .i64 0] w fun e w' => e = .returned (.int .i64 0) ∧ ∃ k, w' = w.drewN k := by
  have := mul_is b q 0 w h
  rw [show r7 0 = 0 by decide, mul_zero] at this
  exact this
theorem invZ (b : Nat) (w : World) (h : Fd w b) : Calls Try.prog 18 #[.pointer (some ⟨b, 0, none⟩), .int .i64 0] w fun e w' => e = .returned (.int .i64 0) ∧ ∃ k, w' = w.drewN k := by
  have := inv_is b 0 w h
  rw [show r7 0 = 0 by decide] at this
  exact this
set_option maxRecDepth 100000 in
set_option maxHeartbeats 2000000 in
theorem fieldLaws_walk0 (A0 A1 A2 y z : Nat) (w : World) (hA0 : A0 ≤ 255) (hA1 : A1 ≤ 255) (hA2 : A2 ≤ 255) (hx : (A0 : Int) % 128 = 0) (hy : (A1 : Int) % 128 = y) (hz : (A2 : Int) % 128 = z) (hyl : y < 128) (hzl : z < 128) :
    Calls Try.prog 3 #[.int .u8 A0, .int .u8 A1, .int .u8 A2] w fun e w' => e = .returned (.bool true) ∧ Below w.heap.size w w' := by
  have hb0 := Below.refl w.heap.size w
  have hxor := xor_i64 y z (by omega) (by omega)
  have hx0 : bits .xor .i64 0 0 = 0 := by decide
  have c1 := fun b => mulN b hyl hzl
  obtain ⟨A, hA⟩ : ∃ A, A = mul y z := ⟨_, rfl⟩
  rw [← hA] at c1
  clear hA
  go_enter Try.func3, Try.ntmps3
  go_wp2_with (first | (go_at_call 15; (with_reducible refine (on_base (by assumption) (fieldAwake_is _)).mono ?_); rintro e w1 ⟨rfl, hb1⟩) | (go_at_call 16; (with_reducible refine (new_on hb1).mono ?_); rintro e W ⟨b, rfl, hF, hbW⟩; have HF := Lib.hid hF; clear hF) | (go_at_call 17; (with_reducible refine (c1 b _ (by first | exact HF.out | exact HF.out.drewN _)).mono ?_); rintro e w2 ⟨rfl, k2, rfl⟩) | (go_at_call 17; (with_reducible refine (mulZ b _ _ (by first | exact HF.out | exact HF.out.drewN _)).mono ?_); rintro e w2 ⟨rfl, k2, rfl⟩) | (go_at_call 17; (with_reducible refine (mulZ' b _ _ (by first | exact HF.out | exact HF.out.drewN _)).mono ?_); rintro e w2 ⟨rfl, k2, rfl⟩) | (go_at_call 18; (with_reducible refine (invZ b _ (by first | exact HF.out | exact HF.out.drewN _)).mono ?_); rintro e w2 ⟨rfl, k2, rfl⟩))
  go_ret
  exact ⟨rfl, below_new hbW _⟩
set_option maxRecDepth 100000 in
set_option maxHeartbeats 2000000 in
theorem fieldLaws_walk (n0 n1 n2 : Int) (w : World) (h0 : (Lit.int .u8 n0).wf = true) (h1 : (Lit.int .u8 n1).wf = true) (h2 : (Lit.int .u8 n2).wf = true) :
    Calls Try.prog 3 #[.int .u8 n0, .int .u8 n1, .int .u8 n2] w fun e w' => e = .returned (.bool true) ∧ Below w.heap.size w w' := by
  obtain ⟨A0, x, rfl, hA0, hx, hxl⟩ := u8_rest n0 h0
  obtain ⟨A1, y, rfl, hA1, hy, hyl⟩ := u8_rest n1 h1
  obtain ⟨A2, z, rfl, hA2, hz, hzl⟩ := u8_rest n2 h2
  clear h0 h1 h2
  have hb0 := Below.refl w.heap.size w
  have hxor := xor_i64 y z (by omega) (by omega)
  have hxyz := xor_lt y z hyl hzl
  have c1 := fun b => mulN b hyl hzl
  have c2 := fun b => mulN b hxl (mul_lt y z)
  have c3 := fun b => mulN b hxl hyl
  have c4 := fun b => mulN b (mul_lt x y) hzl
  rw [← mul_assoc x y z hxl hyl hzl] at c4
  have c5 := fun b => mulN b hyl hxl
  rw [mul_comm y x] at c5
  have c6 := fun b => mulN b hxl hxyz
  have c7 := fun b => mulN b hxl hzl
  have hxx := xor_i64 (mul x y) (mul x z) (by have := mul_lt x y; omega) (by have := mul_lt x z; omega)
  rw [← mul_xor x y z hxl hyl hzl] at hxx
  have c8 := fun b => mulN b hxl (show 1 < 128 by omega)
  rw [mul_one x hxl] at c8
  change ∀ b w, Fd w b → Calls Try.prog 17 #[.pointer (some ⟨b, 0, none⟩), .int .i64 x, .int .i64 1] w _ at c8
  have c9 := fun b => invN b hxl
  have hxy0 := mul_eq_zero x y hxl hyl
  have hinv := mul_inv x hxl
  have c10 := fun b => mulN b hxl (inv_lt x)
  have hi0 : x = 0 → inv x = 0 := fun h => by simp [inv, h]
  obtain ⟨A, hA⟩ : ∃ A, A = mul y z := ⟨_, rfl⟩
  obtain ⟨C, hC⟩ : ∃ C, C = mul x y := ⟨_, rfl⟩
  obtain ⟨Q, hQ⟩ : ∃ Q, Q = mul x z := ⟨_, rfl⟩
  obtain ⟨D, hD⟩ : ∃ D, D = y ^^^ z := ⟨_, rfl⟩
  rw [← hA] at c1 c2 c4
  rw [← hC] at c3 c4 c5 hxx hxy0
  rw [← hQ] at c7 hxx
  rw [← hD] at hxor c6 hxx
  obtain ⟨B, hB⟩ : ∃ B, B = mul x A := ⟨_, rfl⟩
  obtain ⟨P, hP⟩ : ∃ P, P = mul x D := ⟨_, rfl⟩
  obtain ⟨I, hI⟩ : ∃ I, I = inv x := ⟨_, rfl⟩
  rw [← hB] at c2 c4
  rw [← hP] at c6 hxx
  rw [← hI] at c9 c10 hinv hi0
  clear hA hC hQ hD hB hP hI hxyz
  by_cases hx0 : x = 0
  · subst hx0
    exact fieldLaws_walk0 A0 A1 A2 y z w hA0 hA1 hA2 hx hy hz hyl hzl
  · have hi1 := hinv hx0
    rw [hi1] at c10
    change ∀ b w, Fd w b → Calls Try.prog 17 _ w fun e w' => e = .returned (.int .i64 1) ∧ _ at c10
    have e1 : ((x : Int) == 0) = false := by simp [hx0]
    have e3 : ((x : Int) != 0) = true := by simp [hx0]
    have e2 : ((C : Int) == 0) = ((y : Int) == 0) := by
      by_cases hy0 : y = 0
      · have : C = 0 := hxy0.2 (.inr hy0)
        rw [this, hy0]
      · have : C ≠ 0 := fun h => by rcases hxy0.1 h with h | h <;> contradiction
        have a1 : (C : Int) ≠ 0 := by omega
        have a2 : (y : Int) ≠ 0 := by omega
        rw [beq_eq_false_iff_ne.2 a1, beq_eq_false_iff_ne.2 a2]
    clear hi0 hinv hxy0 hi1
    go_enter Try.func3, Try.ntmps3
    go_wp2_with (first | (go_at_call 15; (with_reducible refine (on_base (by assumption) (fieldAwake_is _)).mono ?_); rintro e w1 ⟨rfl, hb1⟩) | (go_at_call 16; (with_reducible refine (new_on hb1).mono ?_); rintro e W ⟨b, rfl, hF, hbW⟩; have HF := Lib.hid hF; clear hF) | (go_at_call 17; (with_reducible refine (c1 b _ (by first | exact HF.out | exact HF.out.drewN _)).mono ?_); rintro e w2 ⟨rfl, k2, rfl⟩) | (go_at_call 17; (with_reducible refine (c2 b _ (by first | exact HF.out | exact HF.out.drewN _)).mono ?_); rintro e w2 ⟨rfl, k2, rfl⟩) | (go_at_call 17; (with_reducible refine (c3 b _ (by first | exact HF.out | exact HF.out.drewN _)).mono ?_); rintro e w2 ⟨rfl, k2, rfl⟩) | (go_at_call 17; (with_reducible refine (c4 b _ (by first | exact HF.out | exact HF.out.drewN _)).mono ?_); rintro e w2 ⟨rfl, k2, rfl⟩) | (go_at_call 17; (with_reducible refine (c5 b _ (by first | exact HF.out | exact HF.out.drewN _)).mono ?_); rintro e w2 ⟨rfl, k2, rfl⟩) | (go_at_call 17; (with_reducible refine (c6 b _ (by first | exact HF.out | exact HF.out.drewN _)).mono ?_); rintro e w2 ⟨rfl, k2, rfl⟩) | (go_at_call 17; (with_reducible refine (c7 b _ (by first | exact HF.out | exact HF.out.drewN _)).mono ?_); rintro e w2 ⟨rfl, k2, rfl⟩) | (go_at_call 17; (with_reducible refine (c8 b _ (by first | exact HF.out | exact HF.out.drewN _)).mono ?_); rintro e w2 ⟨rfl, k2, rfl⟩) | (go_at_call 18; (with_reducible refine (c9 b _ (by first | exact HF.out | exact HF.out.drewN _)).mono ?_); rintro e w2 ⟨rfl, k2, rfl⟩) | (go_at_call 17; (with_reducible refine (c10 b _ (by first | exact HF.out | exact HF.out.drewN _)).mono ?_); rintro e w2 ⟨rfl, k2, rfl⟩))
    go_ret
    exact ⟨rfl, below_new hbW _⟩
end Go.Proofs.Ythponlnklmhbeaa
