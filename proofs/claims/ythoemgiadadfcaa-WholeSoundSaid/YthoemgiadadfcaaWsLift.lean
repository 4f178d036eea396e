/- A number's part, two numbers turned by three shears: their walks. -/
import Derived.Test.YthoemgiadadfcaaWsFac
import Derived.Test.YthoemgiadadfcaaBelowTail
set_option linter.unusedVariables false
set_option linter.unusedSimpArgs false
namespace Go.Proofs.Ythoemgiadadfcaa
open Go.RowKit Go.Sort Ws
theorem part_is (x m : Int) (w : World) : Calls Try.prog 50 #[.int .i64 x, .int .i64 m] w fun e w' => e = .returned (.int .i64 (Ws.part x m)) ∧ w' = w := by
  by_cases h : x < -70368744177664 ∨ 70368744177664 < x ∨ m < 0 ∨ 32768 < m
  · have hp : Ws.part x m = 0 := by unfold Ws.part; rw [if_pos h]
    rw [hp]
    clear hp
    by_cases h1 : x < -70368744177664
    · go_enter Try.func50, Try.ntmps50
      go_wp2
      go_ret
      exact ⟨rfl, rfl⟩
    · by_cases h2 : 70368744177664 < x
      · go_enter Try.func50, Try.ntmps50
        go_wp2
        go_ret
        exact ⟨rfl, rfl⟩
      · by_cases h3 : m < 0
        · go_enter Try.func50, Try.ntmps50
          go_wp2
          go_ret
          exact ⟨rfl, rfl⟩
        · have h4 : 32768 < m := by omega
          go_enter Try.func50, Try.ntmps50
          go_wp2
          go_ret
          exact ⟨rfl, rfl⟩
  · have hp : Ws.part x m = (x * m + 16384) / 32768 := by unfold Ws.part; rw [if_neg h]
    rw [hp]
    have h1 : -70368744177664 ≤ x := by omega
    have h2 : x ≤ 70368744177664 := by omega
    have h3 : 0 ≤ m := by omega
    have h4 : m ≤ 32768 := by omega
    have g1 : x * m ≤ 2305843009213693952 := by
      have a1 : x * m ≤ 70368744177664 * m := Int.mul_le_mul_of_nonneg_right h2 h3
      omega
    have g2 : -2305843009213693952 ≤ x * m := by
      have a1 : (-70368744177664) * m ≤ x * m := Int.mul_le_mul_of_nonneg_right h1 h3
      omega
    clear hp h
    go_enter Try.func50, Try.ntmps50
    go_wp2
    go_ret
    exact ⟨rfl, rfl⟩
/-- A pair's block. -/
def pc (a b p q : Int) : Array Value := #[.int .i64 a, .int .i64 b, .int .i64 p, .int .i64 q]
structure Pr (w0 w : World) (g : Nat) (a b p q : Int) : Prop where
  at_ : w.heap[g]? = some (.cells (pc a b p q) 73 (0, 0))
  below : Below w0.heap.size w0 w
  new : w0.heap.size ≤ g
theorem Pr.c0 {w0 w : World} {g : Nat} {a b p q : Int} (h : Pr w0 w g a b p q) : w.cell? ⟨g, 0, none⟩ = some (.int .i64 a) := cell_of_row _ _ 0 _ 73 (0, 0) h.at_
theorem Pr.c1 {w0 w : World} {g : Nat} {a b p q : Int} (h : Pr w0 w g a b p q) : w.cell? ⟨g, 1, none⟩ = some (.int .i64 b) := cell_of_row _ _ 1 _ 73 (0, 0) h.at_
theorem Pr.c2 {w0 w : World} {g : Nat} {a b p q : Int} (h : Pr w0 w g a b p q) : w.cell? ⟨g, 2, none⟩ = some (.int .i64 p) := cell_of_row _ _ 2 _ 73 (0, 0) h.at_
theorem Pr.c3 {w0 w : World} {g : Nat} {a b p q : Int} (h : Pr w0 w g a b p q) : w.cell? ⟨g, 3, none⟩ = some (.int .i64 q) := cell_of_row _ _ 3 _ 73 (0, 0) h.at_
theorem Pr.free {w0 w : World} {g : Nat} {a b p q : Int} (h : Pr w0 w g a b p q) (i : Nat) : w.frozen? ⟨g, i, none⟩ = false := frozen_of_row _ _ i _ 73 h.at_
theorem Pr.set0 {w0 w : World} {g : Nat} {a b p q : Int} (h : Pr w0 w g a b p q) (x : Int) : Pr w0 (w.setCell ⟨g, 0, none⟩ (.int .i64 x)) g x b p q :=
  ⟨heap_setCell_same w g 0 _ 73 (.int .i64 x) h.at_, below_gb h.below (gb_setCell _ ⟨g, 0, none⟩ _) h.below.size h.new, h.new⟩
theorem Pr.set1 {w0 w : World} {g : Nat} {a b p q : Int} (h : Pr w0 w g a b p q) (x : Int) : Pr w0 (w.setCell ⟨g, 1, none⟩ (.int .i64 x)) g a x p q :=
  ⟨heap_setCell_same w g 1 _ 73 (.int .i64 x) h.at_, below_gb h.below (gb_setCell _ ⟨g, 1, none⟩ _) h.below.size h.new, h.new⟩
theorem Pr.drewN {w0 w : World} {g : Nat} {a b p q : Int} (h : Pr w0 w g a b p q) (n : Nat) : Pr w0 (w.drewN n) g a b p q := ⟨h.at_, below_drews h.below n, h.new⟩
theorem drew2 (w : World) (a b : Nat) : (w.drewN a).drewN b = w.drewN (a + b) := by
  unfold World.drewN; simp [Nat.add_assoc]
theorem quiet_of {f : FuncId} {args : Array Value} {w : World} {n : Nat} {v : Value} (h : Calls Try.prog f args (w.drewN n) fun e w' => e = .returned v ∧ ∃ k, w' = (w.drewN n).drewN k) :
    Calls Try.prog f args (w.drewN n) fun e w'' => e = .returned v ∧ ∃ m, w'' = w.drewN m :=
  h.mono fun _ _ ⟨he, k, hk⟩ => ⟨he, n + k, by rw [hk, drew2]⟩
theorem lose_is {w0 w : World} {g : Nat} {a b p q : Int} (ha : -4611686018427387904 ≤ a) (ha2 : a ≤ 4611686018427387904) (h : Pr w0 w g a b p q) :
    Calls Try.prog 45 #[.pointer (some ⟨g, 0, none⟩)] w fun e w' => e = .returned (.tuple #[]) ∧ Pr w0 w' g (a - Ws.part b p) b p q := by
  have l0 := h.c0
  have l1 := h.c1
  have l2 := h.c2
  have f0 := h.free 0
  have hq : ∀ w, Calls Try.prog 50 #[.int .i64 b, .int .i64 p] w fun e w' => e = .returned (.int .i64 (Ws.part b p)) ∧ ∃ k, w' = w.drewN k := fun w => (part_is b p w).mono fun e w' ⟨h1, h2⟩ => ⟨h1, 0, h2⟩
  have hpl := part_le b p
  generalize hV : Ws.part b p = V at *
  obtain ⟨hpl, hpu⟩ := hpl
  have hwr : IntKind.i64.wrap (a - V) = a - V := by rw [IntKind.wrap_i64]; omega
  have hN : Hid (∀ n, Pr w0 ((w.drewN n).setCell ⟨g, 0, none⟩ (.int .i64 (a - V))) g (a - V) b p q) := fun n => (h.drewN n).set0 _
  clear h hV
  go_enter Try.func45, Try.ntmps45
  refine wp_region_quiet_tail 16 (by kernel_rfl) (by kernel_rfl) ?_
  simp only [List.take_succ_cons, List.take_zero, List.drop_succ_cons, List.drop_zero]
  repeat (go_big_quiet_step ((exact quiet_of (hq _))))
  refine wpQuiet_nil ?_
  intro _ hw'
  obtain ⟨nq, hw''⟩ := hw'
  subst hw''
  go_wp2
  go_end0
  exact ⟨rfl, hN.out nq⟩
theorem gain_is {w0 w : World} {g : Nat} {a b p q : Int} (ha : -4611686018427387904 ≤ b) (ha2 : b ≤ 4611686018427387904) (h : Pr w0 w g a b p q) :
    Calls Try.prog 46 #[.pointer (some ⟨g, 0, none⟩)] w fun e w' => e = .returned (.tuple #[]) ∧ Pr w0 w' g a (b + Ws.part a q) p q := by
  have l0 := h.c0
  have l1 := h.c1
  have l2 := h.c3
  have f0 := h.free 1
  have hq : ∀ w, Calls Try.prog 50 #[.int .i64 a, .int .i64 q] w fun e w' => e = .returned (.int .i64 (Ws.part a q)) ∧ ∃ k, w' = w.drewN k := fun w => (part_is a q w).mono fun e w' ⟨h1, h2⟩ => ⟨h1, 0, h2⟩
  have hpl := part_le a q
  generalize hV : Ws.part a q = V at *
  obtain ⟨hpl, hpu⟩ := hpl
  have hwr : IntKind.i64.wrap (b + V) = b + V := by rw [IntKind.wrap_i64]; omega
  have hN : Hid (∀ n, Pr w0 ((w.drewN n).setCell ⟨g, 1, none⟩ (.int .i64 (b + V))) g a (b + V) p q) := fun n => (h.drewN n).set1 _
  clear h hV
  go_enter Try.func46, Try.ntmps46
  refine wp_region_quiet_tail 16 (by kernel_rfl) (by kernel_rfl) ?_
  simp only [List.take_succ_cons, List.take_zero, List.drop_succ_cons, List.drop_zero]
  repeat (go_big_quiet_step ((exact quiet_of (hq _))))
  refine wpQuiet_nil ?_
  intro _ hw'
  obtain ⟨nq, hw''⟩ := hw'
  subst hw''
  go_wp2
  go_end0
  exact ⟨rfl, hN.out nq⟩
theorem unlose_is {w0 w : World} {g : Nat} {a b p q : Int} (ha : -4611686018427387904 ≤ a) (ha2 : a ≤ 4611686018427387904) (h : Pr w0 w g a b p q) :
    Calls Try.prog 47 #[.pointer (some ⟨g, 0, none⟩)] w fun e w' => e = .returned (.tuple #[]) ∧ Pr w0 w' g (a + Ws.part b p) b p q := by
  have l0 := h.c0
  have l1 := h.c1
  have l2 := h.c2
  have f0 := h.free 0
  have hq : ∀ w, Calls Try.prog 50 #[.int .i64 b, .int .i64 p] w fun e w' => e = .returned (.int .i64 (Ws.part b p)) ∧ ∃ k, w' = w.drewN k := fun w => (part_is b p w).mono fun e w' ⟨h1, h2⟩ => ⟨h1, 0, h2⟩
  have hpl := part_le b p
  generalize hV : Ws.part b p = V at *
  obtain ⟨hpl, hpu⟩ := hpl
  have hwr : IntKind.i64.wrap (a + V) = a + V := by rw [IntKind.wrap_i64]; omega
  have hN : Hid (∀ n, Pr w0 ((w.drewN n).setCell ⟨g, 0, none⟩ (.int .i64 (a + V))) g (a + V) b p q) := fun n => (h.drewN n).set0 _
  clear h hV
  go_enter Try.func47, Try.ntmps47
  refine wp_region_quiet_tail 16 (by kernel_rfl) (by kernel_rfl) ?_
  simp only [List.take_succ_cons, List.take_zero, List.drop_succ_cons, List.drop_zero]
  repeat (go_big_quiet_step ((exact quiet_of (hq _))))
  refine wpQuiet_nil ?_
  intro _ hw'
  obtain ⟨nq, hw''⟩ := hw'
  subst hw''
  go_wp2
  go_end0
  exact ⟨rfl, hN.out nq⟩
theorem ungain_is {w0 w : World} {g : Nat} {a b p q : Int} (ha : -4611686018427387904 ≤ b) (ha2 : b ≤ 4611686018427387904) (h : Pr w0 w g a b p q) :
    Calls Try.prog 48 #[.pointer (some ⟨g, 0, none⟩)] w fun e w' => e = .returned (.tuple #[]) ∧ Pr w0 w' g a (b - Ws.part a q) p q := by
  have l0 := h.c0
  have l1 := h.c1
  have l2 := h.c3
  have f0 := h.free 1
  have hq : ∀ w, Calls Try.prog 50 #[.int .i64 a, .int .i64 q] w fun e w' => e = .returned (.int .i64 (Ws.part a q)) ∧ ∃ k, w' = w.drewN k := fun w => (part_is a q w).mono fun e w' ⟨h1, h2⟩ => ⟨h1, 0, h2⟩
  have hpl := part_le a q
  generalize hV : Ws.part a q = V at *
  obtain ⟨hpl, hpu⟩ := hpl
  have hwr : IntKind.i64.wrap (b - V) = b - V := by rw [IntKind.wrap_i64]; omega
  have hN : Hid (∀ n, Pr w0 ((w.drewN n).setCell ⟨g, 1, none⟩ (.int .i64 (b - V))) g a (b - V) p q) := fun n => (h.drewN n).set1 _
  clear h hV
  go_enter Try.func48, Try.ntmps48
  refine wp_region_quiet_tail 16 (by kernel_rfl) (by kernel_rfl) ?_
  simp only [List.take_succ_cons, List.take_zero, List.drop_succ_cons, List.drop_zero]
  repeat (go_big_quiet_step ((exact quiet_of (hq _))))
  refine wpQuiet_nil ?_
  intro _ hw'
  obtain ⟨nq, hw''⟩ := hw'
  subst hw''
  go_wp2
  go_end0
  exact ⟨rfl, hN.out nq⟩
end Go.Proofs.Ythoemgiadadfcaa
