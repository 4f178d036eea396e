/- Square roots, cosines and sines, factors of angles, turns of two numbers: as plain numbers. -/
import Derived.Test.YthoemgiadadfcaaFoot
set_option linter.unusedVariables false
set_option linter.unusedSimpArgs false
namespace Go.Proofs.Ythoemgiadadfcaa
namespace Ws
/-- The bit that a root's round tries. -/
def bitAt (j : Nat) : Nat := 2147483648 / 2 ^ j
def rootF (n : Nat) : Nat → Nat
  | 0 => 0
  | j + 1 => if rootF n j + bitAt j ≤ n / (rootF n j + bitAt j) then rootF n j + bitAt j else rootF n j
def root (n : Nat) : Nat := rootF n 32
theorem bitAt_succ (j : Nat) : bitAt (j + 1) = bitAt j / 2 := by unfold bitAt; rw [Nat.pow_succ, Nat.div_div_eq_div_mul]
theorem bitAt_le (j : Nat) : bitAt j ≤ 2147483648 := Nat.div_le_self _ _
theorem bitAt_pos (j : Nat) (h : j < 32) : 1 ≤ bitAt j := by
  unfold bitAt
  refine Nat.div_pos ?_ (Nat.pow_pos (by decide))
  have h1 : 2 ^ j ≤ 2 ^ 31 := Nat.pow_le_pow_right (by decide) (by omega)
  exact Nat.le_trans h1 (by decide +kernel)
theorem bitAt_32 : bitAt 32 = 0 := by decide +kernel
theorem rootF_le (n : Nat) : ∀ j, rootF n j ≤ j * 2147483648
  | 0 => Nat.le_refl _
  | j + 1 => by
    have h1 := rootF_le n j
    have h2 := bitAt_le j
    rw [rootF, Nat.succ_mul]
    generalize j * 2147483648 = y at *
    generalize bitAt j = b at *
    generalize rootF n j = r at *
    by_cases h : r + b ≤ n / (r + b)
    · rw [if_pos h]; clear h; omega
    · rw [if_neg h]; clear h; omega
/-- The cosines of the halves, from the greatest angle on. -/
def hh : Nat → Nat
  | 0 => 0
  | j + 1 => root ((1073741824 + hh j) * 536870912)
def hs (j : Nat) : Nat := root ((1073741824 - hh j) * 536870912)
/-- Cosine and sine of 2^i. -/
def hcos (i : Nat) : Nat := hh (7 - i)
def hsin (i : Nat) : Nat := hs (6 - i)
def hhL : List Nat := [0, 759250124, 992008094, 1053110175, 1068571463, 1072448454, 1073418432, 1073660972]
theorem hh_list : (List.range 8).map hh = hhL := by decide +kernel
theorem hh_le : ∀ j, j < 8 → hh j ≤ 1073741824 := by
  intro j hj
  have h : ∀ x ∈ hhL, x ≤ 1073741824 := by decide
  refine h _ ?_
  rw [← hh_list]
  exact List.mem_map.2 ⟨j, List.mem_range.2 hj, rfl⟩
theorem hh_lt : ∀ j, j < 8 → hh j ≤ 1073660972 := by decide +kernel
def hcL : List Nat := [1073660972, 1073418432, 1072448454, 1068571463, 1053110175, 992008094, 759250124]
def hsL : List Nat := [13176485, 26350953, 52686017, 105245105, 209476638, 410903207, 759250124]
/-- Cosine and sine of the angle 2^i. -/
def hc (i : Nat) : Int := hcL.getD i 0
def hn (i : Nat) : Int := hsL.getD i 0
theorem hc_eq : ∀ j, j < 7 → (root ((1073741824 + hh j) * 536870912) : Int) = hc (6 - j) ∧ (root ((1073741824 - hh j) * 536870912) : Int) = hn (6 - j) := by decide +kernel
theorem hc_le : ∀ i, i < 7 → 0 ≤ hc i ∧ hc i ≤ 1073741824 ∧ 0 ≤ hn i ∧ hn i ≤ 1073741824 := by decide +kernel
/-- Cosine and sine of an angle below a right one, behind j rounds. -/
def bl (k : Nat) : Nat → Int × Int
  | 0 => (1073741824, 0)
  | j + 1 => if k / 2 ^ (6 - j) % 2 = 1 then
      (((bl k j).1 * hc (6 - j) - (bl k j).2 * hn (6 - j) + 536870912) / 1073741824, ((bl k j).1 * hn (6 - j) + (bl k j).2 * hc (6 - j) + 536870912) / 1073741824)
    else bl k j
theorem bl_le : ∀ k, k < 65 → ∀ j, j < 8 → -1073741824 ≤ (bl k j).1 ∧ (bl k j).1 ≤ 1073741824 ∧ -1073741824 ≤ (bl k j).2 ∧ (bl k j).2 ≤ 1073741824 := by decide +kernel
/-- The factors of an angle. -/
def fp (k : Nat) : Int := if k < 1 ∨ 64 < k then 0 else (((1073741824 - (bl k 7).1) * 32768) + (bl k 7).2 / 2) / (bl k 7).2
def fq (k : Nat) : Int := if k < 1 ∨ 64 < k then 0 else ((bl k 7).2 + 16384) / 32768
theorem bl_pos : ∀ k, k < 65 → 1 ≤ k → 1 ≤ (bl k 7).2 := by decide +kernel
theorem fac_fits : ∀ k, k < 65 → 0 ≤ fp k ∧ fp k ≤ 32768 ∧ 0 ≤ fq k ∧ fq k ≤ 32768 ∧ 0 ≤ 1073741824 - fp k * fq k ∧
    (fq k * 32768 + (1073741824 - fp k * fq k)) * 2 ≤ 3221225472 ∧ ((1073741824 - fp k * fq k) * 32768 + fp k * (1073741824 + (1073741824 - fp k * fq k))) * 2 ≤ 105553116266496 := by decide +kernel
/-- A number's part by a factor. -/
def part (x m : Int) : Int := if x < -70368744177664 ∨ 70368744177664 < x ∨ m < 0 ∨ 32768 < m then 0 else (x * m + 16384) / 32768
theorem part_near {x m : Int} (h1 : -70368744177664 ≤ x) (h2 : x ≤ 70368744177664) (h3 : 0 ≤ m) (h4 : m ≤ 32768) : ∃ d, 32768 * part x m = x * m + d ∧ -16384 ≤ d ∧ d ≤ 16384 := by
  unfold part
  rw [if_neg (by omega)]
  refine ⟨32768 * ((x * m + 16384) / 32768) - x * m, ?_, ?_, ?_⟩ <;> generalize x * m = y <;> omega
theorem part_le (x m : Int) : -70368744177665 ≤ part x m ∧ part x m ≤ 70368744177665 := by
  unfold part
  split
  · omega
  · rename_i h
    have h1 : x * m ≤ 70368744177664 * 32768 := by
      have a1 : x * m ≤ 70368744177664 * m := Int.mul_le_mul_of_nonneg_right (by omega) (by omega)
      omega
    have h2 : -(70368744177664 * 32768) ≤ x * m := by
      have a1 : (-70368744177664) * m ≤ x * m := Int.mul_le_mul_of_nonneg_right (by omega) (by omega)
      omega
    generalize x * m = y at *
    omega
def fwd (p q a b : Int) : Int × Int := (a - part b p - part (b + part (a - part b p) q) p, b + part (a - part b p) q)
def bwd (p q a b : Int) : Int × Int := (a + part b p + part (b - part (a + part b p) q) p, b - part (a + part b p) q)
theorem bwd_fwd (p q a b : Int) : bwd p q (fwd p q a b).1 (fwd p q a b).2 = (a, b) := by
  unfold bwd fwd
  dsimp only
  have e1 : a - part b p - part (b + part (a - part b p) q) p + part (b + part (a - part b p) q) p = a - part b p := by omega
  rw [e1]
  have e2 : b + part (a - part b p) q - part (a - part b p) q = b := by omega
  rw [e2]
  congr 1
  omega
theorem fwd_bwd (p q a b : Int) : fwd p q (bwd p q a b).1 (bwd p q a b).2 = (a, b) := by
  unfold bwd fwd
  dsimp only
  have e1 : a + part b p + part (b - part (a + part b p) q) p - part (b - part (a + part b p) q) p = a + part b p := by omega
  rw [e1]
  have e2 : b - part (a + part b p) q + part (a + part b p) q = b := by omega
  rw [e2]
  congr 1
  omega
end Ws
end Go.Proofs.Ythoemgiadadfcaa
