/- The field of 128 elements as powers and logs, in plain numbers. -/
import Derived.Test.YthponlnklmhbeaaCom
set_option linter.unusedVariables false
set_option linter.unusedSimpArgs false
namespace Go.Proofs.Ythponlnklmhbeaa
namespace F7
def E : List Nat := [1, 2, 4, 8, 16, 32, 64, 9, 18, 36, 72, 25, 50, 100, 65, 11, 22, 44, 88, 57, 114, 109, 83, 47, 94, 53, 106, 93, 51, 102, 69, 3, 6, 12, 24, 48, 96, 73, 27, 54, 108, 81, 43, 86, 37, 74, 29, 58, 116, 97, 75, 31, 62, 124, 113, 107, 95, 55, 110, 85, 35, 70, 5, 10, 20, 40, 80, 41, 82, 45, 90, 61, 122, 125, 115, 111, 87, 39, 78, 21, 42, 84, 33, 66, 13, 26, 52, 104, 89, 59, 118, 101, 67, 15, 30, 60, 120, 121, 123, 127, 119, 103, 71, 7, 14, 28, 56, 112, 105, 91, 63, 126, 117, 99, 79, 23, 46, 92, 49, 98, 77, 19, 38, 76, 17, 34, 68]
def G : List Nat := [0, 0, 1, 31, 2, 62, 32, 103, 3, 7, 63, 15, 33, 84, 104, 93, 4, 124, 8, 121, 64, 79, 16, 115, 34, 11, 85, 38, 105, 46, 94, 51, 5, 82, 125, 60, 9, 44, 122, 77, 65, 67, 80, 42, 17, 69, 116, 23, 35, 118, 12, 28, 86, 25, 39, 57, 106, 19, 47, 89, 95, 71, 52, 110, 6, 14, 83, 92, 126, 30, 61, 102, 10, 37, 45, 50, 123, 120, 78, 114, 66, 41, 68, 22, 81, 59, 43, 76, 18, 88, 70, 109, 117, 27, 24, 56, 36, 49, 119, 113, 13, 91, 29, 101, 87, 108, 26, 55, 40, 21, 58, 75, 107, 54, 20, 74, 48, 112, 90, 100, 96, 97, 72, 98, 53, 73, 111, 99]
def dbl (x : Nat) : Nat := if 128 ≤ 2 * x then 2 * x ^^^ 137 else 2 * x
def ex (n : Nat) : Nat := E.getD (n % 127) 0
def lg (x : Nat) : Nat := G.getD x 0
def mul (x y : Nat) : Nat := if x = 0 ∨ y = 0 then 0 else ex (lg x + lg y)
theorem tE : ∀ i, i < 127 → E.getD ((i + 1) % 127) 0 = dbl (E.getD i 0) ∧ 1 ≤ E.getD i 0 ∧ E.getD i 0 < 128 ∧ G.getD (E.getD i 0) 0 = i := by decide +kernel
theorem tG : ∀ x, x < 128 → x ≠ 0 → G.getD x 0 < 127 ∧ E.getD (G.getD x 0) 0 = x := by decide +kernel
theorem tD : ∀ a, a < 128 → ∀ b, b < 128 → dbl (a ^^^ b) = dbl a ^^^ dbl b := by decide +kernel
theorem ex_mod (n : Nat) : ex (n % 127) = ex n := by unfold ex; rw [Nat.mod_mod]
theorem ex_pos (n : Nat) : 1 ≤ ex n := (tE _ (Nat.mod_lt _ (by omega))).2.1
theorem ex_lt (n : Nat) : ex n < 128 := (tE _ (Nat.mod_lt _ (by omega))).2.2.1
theorem lg_ex (n : Nat) : lg (ex n) = n % 127 := (tE _ (Nat.mod_lt _ (by omega))).2.2.2
theorem ex_succ (n : Nat) : ex (n + 1) = dbl (ex n) := by
  unfold ex
  rw [← (tE (n % 127) (Nat.mod_lt _ (by omega))).1]
  congr 1; omega
theorem lg_lt (x : Nat) (h : x < 128) (h0 : x ≠ 0) : lg x < 127 := (tG x h h0).1
theorem ex_lg (x : Nat) (h : x < 128) (h0 : x ≠ 0) : ex (lg x) = x := by
  have := tG x h h0
  unfold ex lg; rw [Nat.mod_eq_of_lt this.1]; exact this.2
theorem ex_zero : ex 0 = 1 := by decide +kernel
theorem lg_one : lg 1 = 0 := by decide +kernel
theorem ex_cong {a b : Nat} (h : a % 127 = b % 127) : ex a = ex b := by unfold ex; rw [h]
theorem mul_lt (x y : Nat) : mul x y < 128 := by unfold mul; split; · omega
                                                 · exact ex_lt _
theorem mul_comm (x y : Nat) : mul x y = mul y x := by unfold mul; simp only [Or.comm, Nat.add_comm]
theorem mul_zero (x : Nat) : mul x 0 = 0 := by simp [mul]
theorem zero_mul (x : Nat) : mul 0 x = 0 := by simp [mul]
theorem mul_ex (a b : Nat) : mul (ex a) (ex b) = ex (a + b) := by
  unfold mul
  rw [if_neg (by have := ex_pos a; have := ex_pos b; omega), lg_ex, lg_ex]
  exact ex_cong (by omega)
theorem form (x : Nat) (h : x < 128) : x = 0 ∨ ∃ i, i < 127 ∧ x = ex i := by
  by_cases h0 : x = 0
  · exact .inl h0
  · exact .inr ⟨lg x, lg_lt x h h0, (ex_lg x h h0).symm⟩
theorem mul_assoc (x y z : Nat) (hx : x < 128) (hy : y < 128) (hz : z < 128) : mul x (mul y z) = mul (mul x y) z := by
  rcases form x hx with rfl | ⟨a, _, rfl⟩
  · simp only [zero_mul]
  rcases form y hy with rfl | ⟨b, _, rfl⟩
  · simp only [zero_mul, mul_zero]
  rcases form z hz with rfl | ⟨c, _, rfl⟩
  · simp only [mul_zero]
  rw [mul_ex, mul_ex, mul_ex, mul_ex, Nat.add_assoc]
theorem mul_one (x : Nat) (h : x < 128) : mul x 1 = x := by
  rcases form x h with rfl | ⟨a, _, rfl⟩
  · exact zero_mul 1
  · rw [← ex_zero, mul_ex, Nat.add_zero]
theorem one_mul (x : Nat) (h : x < 128) : mul 1 x = x := by rw [mul_comm, mul_one x h]
theorem dbl_zero : dbl 0 = 0 := by decide
theorem mul_succ (i y : Nat) (h : y < 128) : mul (ex (i + 1)) y = dbl (mul (ex i) y) := by
  rcases form y h with rfl | ⟨b, _, rfl⟩
  · rw [mul_zero, mul_zero, dbl_zero]
  · rw [mul_ex, mul_ex, ← ex_succ]; congr 1; omega
theorem xor_lt (a b : Nat) (ha : a < 128) (hb : b < 128) : a ^^^ b < 128 := Nat.xor_lt_two_pow (n := 7) ha hb
theorem mul_xor (x y z : Nat) (hx : x < 128) (hy : y < 128) (hz : z < 128) : mul x (y ^^^ z) = mul x y ^^^ mul x z := by
  rcases form x hx with rfl | ⟨a, _, rfl⟩
  · simp only [zero_mul, Nat.xor_self]
  · have key : ∀ i, mul (ex i) (y ^^^ z) = mul (ex i) y ^^^ mul (ex i) z := by
      intro i
      induction i with
      | zero => rw [ex_zero, one_mul _ (xor_lt _ _ hy hz), one_mul _ hy, one_mul _ hz]
      | succ i ih => rw [mul_succ _ _ (xor_lt _ _ hy hz), mul_succ _ _ hy, mul_succ _ _ hz, ih, tD _ (mul_lt _ _) _ (mul_lt _ _)]
    exact key a
theorem xor_mul (x y z : Nat) (hx : x < 128) (hy : y < 128) (hz : z < 128) : mul (y ^^^ z) x = mul y x ^^^ mul z x := by
  rw [mul_comm, mul_xor x y z hx hy hz, mul_comm x y, mul_comm x z]
theorem mul_eq_zero (x y : Nat) (hx : x < 128) (hy : y < 128) : mul x y = 0 ↔ x = 0 ∨ y = 0 := by
  constructor
  · intro h
    by_cases hh : x = 0 ∨ y = 0
    · exact hh
    · exfalso
      unfold mul at h; rw [if_neg hh] at h
      have := ex_pos (lg x + lg y); omega
  · intro h; unfold mul; rw [if_pos h]
/-- The inverse; 0 of 0. -/
def inv (x : Nat) : Nat := if x = 0 then 0 else ex (127 - lg x)
theorem inv_lt (x : Nat) : inv x < 128 := by unfold inv; split; · omega
                                             · exact ex_lt _
theorem mul_inv (x : Nat) (hx : x < 128) (h0 : x ≠ 0) : mul x (inv x) = 1 := by
  unfold inv; rw [if_neg h0]
  have h1 := lg_lt x hx h0
  conv => lhs; rw [← ex_lg x hx h0]
  rw [lg_ex, Nat.mod_eq_of_lt h1, mul_ex, ← ex_zero]
  exact ex_cong (by omega)
/-- A power. -/
def pow (x n : Nat) : Nat := if n = 0 then 1 else if x = 0 then 0 else ex (lg x * n)
theorem pow_lt (x n : Nat) : pow x n < 128 := by
  unfold pow; split
  · omega
  · split
    · omega
    · exact ex_lt _
theorem pow_zero (x : Nat) : pow x 0 = 1 := by simp [pow]
theorem pow_succ (x n : Nat) (hx : x < 128) : pow x (n + 1) = mul (pow x n) x := by
  by_cases h0 : x = 0
  · subst h0; rw [mul_zero]; simp [pow]
  · have h1 : ∀ m, pow x m = ex (lg x * m) := fun m => by
      unfold pow
      by_cases hm : m = 0
      · subst hm; rw [if_pos rfl, Nat.mul_zero, ex_zero]
      · rw [if_neg hm, if_neg h0]
    rw [h1, h1]
    conv => rhs; rhs; rw [← ex_lg x hx h0]
    rw [mul_ex]; rfl
theorem pow_ex (i n : Nat) : pow (ex i) n = ex (i * n) := by
  unfold pow
  have := ex_pos i
  by_cases hn : n = 0
  · subst hn; rw [if_pos rfl, Nat.mul_zero, ex_zero]
  · rw [if_neg hn, if_neg (by omega), lg_ex]
    exact ex_cong (by rw [Nat.mul_mod, Nat.mod_mod, ← Nat.mul_mod])
theorem pow_two (n : Nat) : pow 2 n = ex n := by
  have : ex 1 = 2 := by decide +kernel
  rw [← this, pow_ex, Nat.one_mul]
/-- The document's way of a product. -/
def rm (a b out : Nat) : Nat := if b = 0 then out else rm (dbl a) (b / 2) (if b % 2 = 1 then out ^^^ a else out)
termination_by b
decreasing_by omega
theorem dbl_lt : ∀ a, a < 128 → dbl a < 128 := by decide +kernel
theorem mul_two (x : Nat) (h : x < 128) : mul 2 x = dbl x := by
  have e : ex (0 + 1) = 2 := by decide +kernel
  rw [← e, mul_succ 0 x h, ex_zero, one_mul x h]
theorem mul_half (a b : Nat) (ha : a < 128) (hb : b < 128) : mul a b = (if b % 2 = 1 then a else 0) ^^^ mul (dbl a) (b / 2) := by
  have h2 : b / 2 < 64 := by omega
  have hb2 : dbl (b / 2) = 2 * (b / 2) := by unfold dbl; rw [if_neg (by omega)]
  have e : b = (b % 2) ^^^ dbl (b / 2) := by
    rw [hb2]
    have : ∀ b, b < 128 → b = (b % 2) ^^^ (2 * (b / 2)) := by decide +kernel
    exact this b hb
  conv => lhs; rw [e]
  rw [mul_xor a _ _ ha (by omega) (dbl_lt _ (by omega)), ← mul_two _ (by omega), mul_assoc a 2 _ ha (by omega) (by omega), mul_comm a 2, mul_two a ha]
  congr 1
  rcases Nat.mod_two_eq_zero_or_one b with h | h
  · rw [h, mul_zero]; simp
  · rw [h, mul_one a ha]; simp
theorem rm_is (b : Nat) : ∀ a out, a < 128 → b < 128 → rm a b out = out ^^^ mul a b := by
  induction b using Nat.strongRecOn with
  | ind b ih =>
    intro a out ha hb
    rw [rm]
    by_cases h0 : b = 0
    · subst h0; rw [if_pos rfl, mul_zero, Nat.xor_zero]
    · rw [if_neg h0, ih (b / 2) (by omega) _ _ (dbl_lt a ha) (by omega), mul_half a b ha hb]
      by_cases h1 : b % 2 = 1
      · rw [if_pos h1, if_pos h1, Nat.xor_assoc]
      · rw [if_neg h1, if_neg h1, Nat.zero_xor]
end F7
end Go.Proofs.Ythponlnklmhbeaa
