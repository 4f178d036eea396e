/- A word of 64 bits turned left: as the program turns it, and bit by bit. -/
import Derived.WalkKit
set_option linter.unusedVariables false
set_option linter.unusedSimpArgs false
namespace Go.Proofs.YthmiomncgkmnoaaDoor
namespace Sip
/-- One bit to the left. -/
def L1 (x : Nat) : Nat := 2 * x % 2 ^ 64 + x / 2 ^ 63
def rot : Nat → Nat → Nat
  | 0, x => x
  | n + 1, x => L1 (rot n x)
theorem rot_add (n m x : Nat) : rot (n + m) x = rot m (rot n x) := by
  induction m with
  | zero => rfl
  | succ m ih => rw [← Nat.add_assoc, rot, rot, ih]
theorem rot_form (n : Nat) : ∀ x, x < 2 ^ 64 → n ≤ 64 → rot n x = x % 2 ^ (64 - n) * 2 ^ n + x / 2 ^ (64 - n) := by
  induction n with
  | zero =>
    intro x hx _
    rw [rot, Nat.sub_zero, Nat.mod_eq_of_lt hx, Nat.div_eq_of_lt hx]; omega
  | succ n ih =>
    intro x hx hn
    rw [rot, ih x hx (by omega)]
    obtain ⟨k, hk⟩ : ∃ k, 64 - n = k + 1 := ⟨63 - n, by omega⟩
    have hk' : 64 - (n + 1) = k := by omega
    rw [hk, hk']
    have hnk : n + (k + 1) = 64 := by omega
    -- x = h * 2^(k+1) + t * 2^k + l
    obtain ⟨A, hA⟩ : ∃ A, A = 2 ^ k := ⟨_, rfl⟩
    obtain ⟨B, hB⟩ : ∃ B, B = 2 ^ n := ⟨_, rfl⟩
    have hAB : A * B * 2 = 2 ^ 64 := by rw [hA, hB, ← hnk, Nat.pow_add, Nat.pow_succ]; rw [Nat.mul_comm (2 ^ k), Nat.mul_assoc]
    have hAp : 0 < A := by rw [hA]; exact Nat.pow_pos (by omega)
    have hBp : 0 < B := by rw [hB]; exact Nat.pow_pos (by omega)
    rw [Nat.pow_succ, ← hA, Nat.pow_succ, ← hB]
    have h1 : x / A = 2 * (x / (A * 2)) + x / A % 2 := by rw [← Nat.div_div_eq_div_mul]; omega
    have h2 : x % (A * 2) = A * (x / A % 2) + x % A := by rw [Nat.mod_mul]; omega
    have hl : x % A < A := Nat.mod_lt _ hAp
    have hh : x / (A * 2) < B := by
      rw [Nat.div_lt_iff_lt_mul (by omega)]
      rw [← hAB] at hx
      have : A * B * 2 = B * (A * 2) := by rw [Nat.mul_comm A B, Nat.mul_assoc]
      omega
    obtain ⟨h, hhe⟩ : ∃ h, h = x / (A * 2) := ⟨_, rfl⟩
    obtain ⟨l, hle⟩ : ∃ l, l = x % A := ⟨_, rfl⟩
    obtain ⟨t, hte⟩ : ∃ t, t = x / A % 2 := ⟨_, rfl⟩
    have ht : t < 2 := by rw [hte]; exact Nat.mod_lt _ (by omega)
    rw [h1, h2, ← hhe, ← hle, ← hte]
    rw [← hhe] at hh
    rw [← hle] at hl
    have h63 : A * B = 2 ^ 63 := by
      have : A * B * 2 = 2 ^ 63 * 2 := by rw [hAB]
      omega
    unfold L1
    have e1 : (A * t + l) * B = A * B * t + l * B := by rw [Nat.add_mul, Nat.mul_assoc, Nat.mul_comm t B, ← Nat.mul_assoc]
    have e2 : l * B + h < A * B := by
      have : (l + 1) * B ≤ A * B := Nat.mul_le_mul_right B (by omega)
      rw [Nat.add_mul] at this; omega
    rw [e1]
    have e3 : l * (B * 2) = 2 * (l * B) := by rw [← Nat.mul_assoc]; omega
    rw [e3, h63]
    rw [h63] at e2
    have : t = 0 ∨ t = 1 := by omega
    rcases this with e | e <;> rw [e] <;> omega
theorem rot_64 (x : Nat) (hx : x < 2 ^ 64) : rot 64 x = x := by
  rw [rot_form 64 x hx (Nat.le_refl _)]
  simp [Nat.mod_one]
theorem L1_lt (x : Nat) (hx : x < 2 ^ 64) : L1 x < 2 ^ 64 := by unfold L1; omega
theorem rot_lt (n x : Nat) (hx : x < 2 ^ 64) : rot n x < 2 ^ 64 := by
  induction n with
  | zero => exact hx
  | succ n ih => exact L1_lt _ ih
theorem rot_mod (n x : Nat) (hx : x < 2 ^ 64) : rot (n % 64) x = rot n x := by
  induction n using Nat.strongRecOn with
  | ind n ih =>
    by_cases h : n < 64
    · rw [Nat.mod_eq_of_lt h]
    · obtain ⟨m, rfl⟩ : ∃ m, n = 64 + m := ⟨n - 64, by omega⟩
      rw [rot_add, rot_64 x hx, ← ih m (by omega)]
      congr 1; omega
/-- As the program turns a word. -/
theorem rot_or (n x : Nat) (hx : x < 2 ^ 64) (hn : n ≤ 64) : x * 2 ^ n % 2 ^ 64 ||| x / 2 ^ (64 - n) = rot n x := by
  rw [rot_form n x hx hn]
  have e : (2 : Nat) ^ 64 = 2 ^ (64 - n) * 2 ^ n := by rw [← Nat.pow_add]; congr 1; omega
  have h1 : x * 2 ^ n % 2 ^ 64 = x % 2 ^ (64 - n) * 2 ^ n := by rw [e, Nat.mul_mod_mul_right]
  have h2 : x / 2 ^ (64 - n) < 2 ^ n := by
    rw [Nat.div_lt_iff_lt_mul (Nat.pow_pos (by omega)), Nat.mul_comm, ← e]; exact hx
  rw [h1, ← Nat.shiftLeft_eq, Nat.shiftLeft_add_eq_or_of_lt h2]
theorem rot_back (n x : Nat) (hx : x < 2 ^ 64) (m : Nat) (h : (n + m) % 64 = 0) : rot m (rot n x) = x := by
  rw [← rot_add, ← rot_mod _ x hx, h]; rfl
/-- A round's half of a half: two words. -/
def add64 (a b : Nat) : Nat := (a + b) % 2 ^ 64
def sub64 (a b : Nat) : Nat := (a + 2 ^ 64 - b) % 2 ^ 64
theorem sub_add (a b : Nat) (ha : a < 2 ^ 64) (hb : b < 2 ^ 64) : sub64 (add64 a b) b = a := by unfold sub64 add64; omega
theorem add_lt (a b : Nat) : add64 a b < 2 ^ 64 := Nat.mod_lt _ (by omega)
theorem xor_lt (a b : Nat) (ha : a < 2 ^ 64) (hb : b < 2 ^ 64) : a ^^^ b < 2 ^ 64 := Nat.xor_lt_two_pow ha hb
theorem xor_back (a b : Nat) : (a ^^^ b) ^^^ b = a := by rw [Nat.xor_assoc, Nat.xor_self, Nat.xor_zero]
structure Four where
  a : Nat
  b : Nat
  c : Nat
  d : Nat
def Four.Ok (v : Four) : Prop := v.a < 2 ^ 64 ∧ v.b < 2 ^ 64 ∧ v.c < 2 ^ 64 ∧ v.d < 2 ^ 64
def round (v : Four) : Four :=
  let a := add64 v.a v.b
  let b := rot 13 v.b ^^^ a
  let a := rot 32 a
  let c := add64 v.c v.d
  let d := rot 16 v.d ^^^ c
  let a := add64 a d
  let d := rot 21 d ^^^ a
  let c := add64 c b
  let b := rot 17 b ^^^ c
  let c := rot 32 c
  ⟨a, b, c, d⟩
def back (v : Four) : Four :=
  let c := rot 32 v.c
  let b := rot 47 (v.b ^^^ c)
  let c := sub64 c b
  let d := rot 43 (v.d ^^^ v.a)
  let a := sub64 v.a d
  let d := rot 48 (d ^^^ c)
  let c := sub64 c d
  let a := rot 32 a
  let b := rot 51 (b ^^^ a)
  let a := sub64 a b
  ⟨a, b, c, d⟩
theorem back_round (v : Four) (h : v.Ok) : back (round v) = v := by
  obtain ⟨a, b, c, d⟩ := v
  obtain ⟨ha, hb, hc, hd⟩ := h
  dsimp only at ha hb hc hd
  unfold back round
  dsimp only
  have l1 := add_lt a b
  have l2 := xor_lt _ _ (rot_lt 13 b hb) l1
  have l3 := add_lt c d
  have l4 := xor_lt _ _ (rot_lt 16 d hd) l3
  have l5 := rot_lt 32 _ l1
  have l6 := add_lt (rot 32 (add64 a b)) (rot 16 d ^^^ add64 c d)
  have l7 := add_lt (add64 c d) (rot 13 b ^^^ add64 a b)
  simp only [rot_back 32 _ l7 32 (by decide), xor_back, rot_back 17 _ l2 47 (by decide), sub_add _ _ l3 l2, rot_back 21 _ l4 43 (by decide), sub_add _ _ l5 l4, rot_back 16 d hd 48 (by decide), sub_add c d hc hd, rot_back 32 _ l1 32 (by decide), rot_back 13 b hb 51 (by decide), sub_add a b ha hb]
end Sip
end Go.Proofs.YthmiomncgkmnoaaDoor
