/- A turn makes numbers by half greater at most. -/
import Derived.Test.YthoemgiadadfcaaWsPure
set_option linter.unusedVariables false
set_option linter.unusedSimpArgs false
namespace Go.Proofs.Ythoemgiadadfcaa
namespace Ws
theorem mul_near {c x M : Int} (hc : 0 ≤ c) (h1 : -M ≤ x) (h2 : x ≤ M) : -(c * M) ≤ c * x ∧ c * x ≤ c * M := by
  have a1 := Int.mul_le_mul_of_nonneg_left h1 hc
  have a2 := Int.mul_le_mul_of_nonneg_left h2 hc
  rw [Int.mul_neg] at a1
  exact ⟨a1, a2⟩
theorem shear_le {p q C a b a1 b1 a2 d1 d2 d3 M : Int} (hC : C = 1073741824 - p * q) (hp : 0 ≤ p) (hp2 : p ≤ 32768) (hq : 0 ≤ q) (hq2 : q ≤ 32768) (hC0 : 0 ≤ C)
    (f1 : (q * 32768 + C) * 2 ≤ 3221225472) (f2 : (C * 32768 + p * (1073741824 + C)) * 2 ≤ 105553116266496)
    (e1 : 32768 * a1 = 32768 * a - p * b - d1) (e2 : 32768 * b1 = 32768 * b + q * a1 + d2) (e3 : 32768 * a2 = 32768 * a1 - p * b1 - d3)
    (hd1 : -16384 ≤ d1 ∧ d1 ≤ 16384) (hd2 : -16384 ≤ d2 ∧ d2 ≤ 16384) (hd3 : -16384 ≤ d3 ∧ d3 ≤ 16384)
    (hM : 0 ≤ M) (ha : -M ≤ a ∧ a ≤ M) (hb : -M ≤ b ∧ b ≤ M) : (-(3 * M + 4) ≤ 2 * b1 ∧ 2 * b1 ≤ 3 * M + 4) ∧ (-(3 * M + 4) ≤ 2 * a2 ∧ 2 * a2 ≤ 3 * M + 4) := by
  have g1 : 1073741824 * b1 = C * b + (q * 32768) * a - q * d1 + 32768 * d2 := by grind
  have g2 : 35184372088832 * a2 = (C * 32768) * a - (p * (1073741824 + C)) * b - C * d1 - (p * 32768) * d2 - 1073741824 * d3 := by grind
  have hpC : 0 ≤ p * (1073741824 + C) := Int.mul_nonneg hp (by omega)
  have m1 := mul_near hC0 hb.1 hb.2
  have m2 := mul_near (show 0 ≤ q * 32768 by omega) ha.1 ha.2
  have m3 := mul_near hq hd1.1 hd1.2
  have m4 := mul_near (show 0 ≤ C * 32768 by omega) ha.1 ha.2
  have m5 := mul_near hpC hb.1 hb.2
  have m6 := mul_near hC0 hd1.1 hd1.2
  have m7 := mul_near (show 0 ≤ p * 32768 by omega) hd2.1 hd2.2
  have k1 := Int.mul_le_mul_of_nonneg_right f1 hM
  have k2 := Int.mul_le_mul_of_nonneg_right f2 hM
  have s1 : (q * 32768 + C) * 2 * M = 2 * ((q * 32768) * M) + 2 * (C * M) := by grind
  have s2 : (C * 32768 + p * (1073741824 + C)) * 2 * M = 2 * ((C * 32768) * M) + 2 * ((p * (1073741824 + C)) * M) := by grind
  rw [s1] at k1
  rw [s2] at k2
  have hC2 : C ≤ 1073741824 := by
    have := Int.mul_nonneg hp hq
    omega
  generalize C * b = x1 at *
  generalize q * 32768 * a = x2 at *
  generalize q * d1 = x3 at *
  generalize C * 32768 * a = x4 at *
  generalize p * (1073741824 + C) * b = x5 at *
  generalize C * d1 = x6 at *
  generalize p * 32768 * d2 = x7 at *
  generalize C * M = y1 at *
  generalize q * 32768 * M = y2 at *
  generalize C * 32768 * M = y4 at *
  generalize p * (1073741824 + C) * M = y5 at *
  clear e1 e2 e3 s1 s2 hC f2 hpC
  constructor <;> constructor <;> omega
theorem fwd_le {k : Nat} (hk : k < 65) {a b M : Int} (hM : 0 ≤ M) (hM2 : M ≤ 1099511627776) (ha : -M ≤ a ∧ a ≤ M) (hb : -M ≤ b ∧ b ≤ M) :
    (-(3 * M + 4) ≤ 2 * (fwd (fp k) (fq k) a b).2 ∧ 2 * (fwd (fp k) (fq k) a b).2 ≤ 3 * M + 4) ∧ (-(3 * M + 4) ≤ 2 * (fwd (fp k) (fq k) a b).1 ∧ 2 * (fwd (fp k) (fq k) a b).1 ≤ 3 * M + 4) := by
  obtain ⟨c1, c2, c3, c4, c5, c6, c7⟩ := fac_fits k hk
  generalize fp k = p at *
  generalize fq k = q at *
  obtain ⟨d1, e1, l1, u1⟩ := part_near (x := b) (m := p) (by omega) (by omega) c1 c2
  unfold fwd
  dsimp only
  have hpb := mul_near c1 hb.1 hb.2
  have hpM : p * M ≤ 32768 * M := Int.mul_le_mul_of_nonneg_right c2 hM
  rw [Int.mul_comm b p] at e1
  have hP : -(M + 1) ≤ part b p ∧ part b p ≤ M + 1 := by generalize p * b = y at *; generalize p * M = z at *; omega
  obtain ⟨d2, e2, l2, u2⟩ := part_near (x := a - part b p) (m := q) (by omega) (by omega) c3 c4
  generalize ha1 : a - part b p = a1 at *
  have ha1' : -(2 * M + 1) ≤ a1 ∧ a1 ≤ 2 * M + 1 := by omega
  have hqa := mul_near c3 ha1'.1 ha1'.2
  have hqM : q * (2 * M + 1) ≤ 32768 * (2 * M + 1) := Int.mul_le_mul_of_nonneg_right c4 (by omega)
  rw [Int.mul_comm a1 q] at e2
  have hQ : -(2 * M + 2) ≤ part a1 q ∧ part a1 q ≤ 2 * M + 2 := by generalize q * a1 = y at *; generalize q * (2 * M + 1) = z at *; omega
  obtain ⟨d3, e3, l3, u3⟩ := part_near (x := b + part a1 q) (m := p) (by omega) (by omega) c1 c2
  generalize hb1 : b + part a1 q = b1 at *
  rw [Int.mul_comm b1 p] at e3
  exact shear_le (p := p) (q := q) (C := 1073741824 - p * q) (a := a) (b := b) (a1 := a1) (b1 := b1) (a2 := a1 - part b1 p) (d1 := d1) (d2 := d2) (d3 := d3) rfl c1 c2 c3 c4 c5 c6 c7 (by omega) (by omega) (by omega) ⟨l1, u1⟩ ⟨l2, u2⟩ ⟨l3, u3⟩ hM ha hb
theorem bwd_le {k : Nat} (hk : k < 65) {a b M : Int} (hM : 0 ≤ M) (hM2 : M ≤ 1099511627776) (ha : -M ≤ a ∧ a ≤ M) (hb : -M ≤ b ∧ b ≤ M) :
    (-(3 * M + 4) ≤ 2 * (bwd (fp k) (fq k) a b).2 ∧ 2 * (bwd (fp k) (fq k) a b).2 ≤ 3 * M + 4) ∧ (-(3 * M + 4) ≤ 2 * (bwd (fp k) (fq k) a b).1 ∧ 2 * (bwd (fp k) (fq k) a b).1 ≤ 3 * M + 4) := by
  obtain ⟨c1, c2, c3, c4, c5, c6, c7⟩ := fac_fits k hk
  generalize fp k = p at *
  generalize fq k = q at *
  obtain ⟨d1, e1, l1, u1⟩ := part_near (x := b) (m := p) (by omega) (by omega) c1 c2
  unfold bwd
  dsimp only
  have hpb := mul_near c1 hb.1 hb.2
  have hpM : p * M ≤ 32768 * M := Int.mul_le_mul_of_nonneg_right c2 hM
  rw [Int.mul_comm b p] at e1
  have hP : -(M + 1) ≤ part b p ∧ part b p ≤ M + 1 := by generalize p * b = y at *; generalize p * M = z at *; omega
  obtain ⟨d2, e2, l2, u2⟩ := part_near (x := a + part b p) (m := q) (by omega) (by omega) c3 c4
  generalize ha1 : a + part b p = a1 at *
  have ha1' : -(2 * M + 1) ≤ a1 ∧ a1 ≤ 2 * M + 1 := by omega
  have hqa := mul_near c3 ha1'.1 ha1'.2
  have hqM : q * (2 * M + 1) ≤ 32768 * (2 * M + 1) := Int.mul_le_mul_of_nonneg_right c4 (by omega)
  rw [Int.mul_comm a1 q] at e2
  have hQ : -(2 * M + 2) ≤ part a1 q ∧ part a1 q ≤ 2 * M + 2 := by generalize q * a1 = y at *; generalize q * (2 * M + 1) = z at *; omega
  obtain ⟨d3, e3, l3, u3⟩ := part_near (x := b - part a1 q) (m := p) (by omega) (by omega) c1 c2
  generalize hb1 : b - part a1 q = b1 at *
  rw [Int.mul_comm b1 p] at e3
  have n1 : p * -b = -(p * b) := Int.mul_neg ..
  have n2 : p * -b1 = -(p * b1) := Int.mul_neg ..
  have := shear_le (p := p) (q := q) (C := 1073741824 - p * q) (a := a) (b := -b) (a1 := a1) (b1 := -b1) (a2 := a1 + part b1 p) (d1 := -d1) (d2 := d2) (d3 := -d3) rfl c1 c2 c3 c4 c5 c6 c7 (by omega) (by omega) (by omega) (by omega) ⟨l2, u2⟩ (by omega) hM ha (by omega)
  omega
end Ws
end Go.Proofs.Ythoemgiadadfcaa
