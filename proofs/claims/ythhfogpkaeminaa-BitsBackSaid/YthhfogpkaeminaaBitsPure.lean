/- Bits laid into bytes, the highest first: plain lists. -/
namespace Go.Proofs.Ythhfogpkaeminaa.Bits

/-- Eight bits as a number. -/
def byte8 (f : Nat → Bool) : Nat :=
  2 * (2 * (2 * (2 * (2 * (2 * (2 * (f 0).toNat + (f 1).toNat) + (f 2).toNat) + (f 3).toNat) + (f 4).toNat) + (f 5).toNat) + (f 6).toNat) + (f 7).toNat
theorem byte8_congr (f g : Nat → Bool) (h : ∀ j, j < 8 → f j = g j) : byte8 f = byte8 g := by
  unfold byte8
  rw [h 0 (by omega), h 1 (by omega), h 2 (by omega), h 3 (by omega), h 4 (by omega), h 5 (by omega), h 6 (by omega), h 7 (by omega)]
theorem byte8_lt (f : Nat → Bool) : byte8 f < 256 := by
  unfold byte8
  have h0 := Bool.toNat_le (f 0); have h1 := Bool.toNat_le (f 1); have h2 := Bool.toNat_le (f 2); have h3 := Bool.toNat_le (f 3)
  have h4 := Bool.toNat_le (f 4); have h5 := Bool.toNat_le (f 5); have h6 := Bool.toNat_le (f 6); have h7 := Bool.toNat_le (f 7)
  omega
def b8 (a b c d e f g h : Bool) : Nat := 2 * (2 * (2 * (2 * (2 * (2 * (2 * a.toNat + b.toNat) + c.toNat) + d.toNat) + e.toNat) + f.toNat) + g.toNat) + h.toNat
theorem byte8_b8 (f : Nat → Bool) : byte8 f = b8 (f 0) (f 1) (f 2) (f 3) (f 4) (f 5) (f 6) (f 7) := rfl
theorem or0 : ∀ x b c d e f g h : Bool, b8 false b c d e f g h ||| x.toNat * 2 ^ 7 = b8 x b c d e f g h := by decide
theorem or1 : ∀ x a c d e f g h : Bool, b8 a false c d e f g h ||| x.toNat * 2 ^ 6 = b8 a x c d e f g h := by decide
theorem or2 : ∀ x a b d e f g h : Bool, b8 a b false d e f g h ||| x.toNat * 2 ^ 5 = b8 a b x d e f g h := by decide
theorem or3 : ∀ x a b c e f g h : Bool, b8 a b c false e f g h ||| x.toNat * 2 ^ 4 = b8 a b c x e f g h := by decide
theorem or4 : ∀ x a b c d f g h : Bool, b8 a b c d false f g h ||| x.toNat * 2 ^ 3 = b8 a b c d x f g h := by decide
theorem or5 : ∀ x a b c d e g h : Bool, b8 a b c d e false g h ||| x.toNat * 2 ^ 2 = b8 a b c d e x g h := by decide
theorem or6 : ∀ x a b c d e f h : Bool, b8 a b c d e f false h ||| x.toNat * 2 ^ 1 = b8 a b c d e f x h := by decide
theorem or7 : ∀ x a b c d e f g : Bool, b8 a b c d e f g false ||| x.toNat * 2 ^ 0 = b8 a b c d e f g x := by decide
theorem byte8_or (f : Nat → Bool) (m : Nat) (hm : m < 8) (x : Bool) (h0 : f m = false) : byte8 f ||| x.toNat * 2 ^ (7 - m) = byte8 (fun j => if j = m then x else f j) := by
  have : m = 0 ∨ m = 1 ∨ m = 2 ∨ m = 3 ∨ m = 4 ∨ m = 5 ∨ m = 6 ∨ m = 7 := by omega
  rcases this with rfl | rfl | rfl | rfl | rfl | rfl | rfl | rfl <;> rw [byte8_b8, byte8_b8, h0]
  · exact or0 _ _ _ _ _ _ _ _
  · exact or1 _ _ _ _ _ _ _ _
  · exact or2 _ _ _ _ _ _ _ _
  · exact or3 _ _ _ _ _ _ _ _
  · exact or4 _ _ _ _ _ _ _ _
  · exact or5 _ _ _ _ _ _ _ _
  · exact or6 _ _ _ _ _ _ _ _
  · exact or7 _ _ _ _ _ _ _ _

/-- The bytes of bits. -/
def pack (l : List Bool) : List Nat := (List.range ((l.length + 7) / 8)).map fun i => byte8 fun j => l.getD (8 * i + j) false
theorem pack_length (l : List Bool) : (pack l).length = (l.length + 7) / 8 := by simp [pack]
theorem pack_get (l : List Bool) (i : Nat) (h : i < (l.length + 7) / 8) : (pack l)[i]'(by rw [pack_length]; exact h) = byte8 fun j => l.getD (8 * i + j) false := by simp [pack]
theorem pack_lt (l : List Bool) : ∀ c ∈ pack l, c < 256 := by
  intro c hc
  simp only [pack, List.mem_map] at hc
  obtain ⟨i, _, rfl⟩ := hc
  exact byte8_lt _
/-- A byte more, where the last one is full. -/
def room (l : List Bool) : List Nat := if l.length % 8 = 0 then pack l ++ [0] else pack l
theorem room_length (l : List Bool) : (room l).length = l.length / 8 + 1 := by
  unfold room
  split
  · rw [List.length_append, pack_length]; simp; omega
  · rw [pack_length]; omega
theorem room_get (l : List Bool) (i : Nat) (h : i < l.length / 8 + 1) : (room l)[i]'(by rw [room_length]; exact h) = byte8 fun j => l.getD (8 * i + j) false := by
  unfold room
  by_cases h8 : l.length % 8 = 0
  · simp only [h8, if_true]
    by_cases hi : i < (pack l).length
    · rw [List.getElem_append_left hi]
      exact pack_get l i (by rw [pack_length] at hi; exact hi)
    · rw [List.getElem_append_right (by omega), List.getElem_singleton]
      rw [pack_length] at hi
      have : ∀ j, l.getD (8 * i + j) false = false := fun j => by
        rw [List.getD_eq_getElem?_getD, List.getElem?_eq_none (by omega)]; rfl
      simp only [this]
      rfl
  · simp only [h8, if_false]
    exact pack_get l i (by omega)
/-- A bit more. -/
theorem pack_snoc (l : List Bool) (b : Bool) : pack (l ++ [b]) = (room l).set (l.length / 8) ((room l).getD (l.length / 8) 0 ||| b.toNat * 2 ^ (7 - l.length % 8)) := by
  have hr := room_length l
  apply List.ext_getElem
  · rw [pack_length, List.length_set, hr, List.length_append]; simp; omega
  · intro i h1 h2
    rw [List.length_set, hr] at h2
    rw [pack_length] at h1
    rw [pack_get _ _ h1, List.getElem_set]
    by_cases h : l.length / 8 = i
    · rw [if_pos h, List.getD_eq_getElem?_getD, List.getElem?_eq_getElem (by omega), Option.getD_some, room_get l _ (by omega), byte8_or _ _ (Nat.mod_lt _ (by omega))]
      · apply byte8_congr
        intro j hj
        by_cases hjm : j = l.length % 8
        · have e : 8 * i + j = l.length := by omega
          rw [if_pos hjm, e, List.getD_eq_getElem?_getD, List.getElem?_append_right (by omega)]
          simp
        · rw [if_neg hjm]
          rw [h]
          rcases Nat.lt_or_ge (8 * i + j) l.length with hlt | hge
          · rw [List.getD_eq_getElem?_getD, List.getElem?_append_left hlt, ← List.getD_eq_getElem?_getD]
          · rw [List.getD_eq_getElem?_getD, List.getElem?_append_right hge, List.getD_eq_getElem?_getD, List.getElem?_eq_none (show l.length ≤ 8 * i + j from hge), List.getElem?_eq_none (by simp; omega)]
      · have e : 8 * (l.length / 8) + l.length % 8 = l.length := by omega
        simp only [e]
        rw [List.getD_eq_getElem?_getD, List.getElem?_eq_none (by omega)]; rfl
    · rw [if_neg h, room_get l _ h2]
      apply byte8_congr
      intro j hj
      rw [List.getD_eq_getElem?_getD, List.getElem?_append_left (by omega), ← List.getD_eq_getElem?_getD]

/-- The n bits of a number, the highest first. -/
def bitsN (x n : Nat) : List Bool := (List.range n).map fun i => x.testBit (n - 1 - i)
theorem bitsN_length (x n : Nat) : (bitsN x n).length = n := by simp [bitsN]
theorem bitsN_get (x n i : Nat) (h : i < n) : (bitsN x n)[i]'(by rw [bitsN_length]; exact h) = x.testBit (n - 1 - i) := by simp [bitsN]
theorem bitsN_take (x n i : Nat) (h : i < n) : (bitsN x n).take (i + 1) = (bitsN x n).take i ++ [x.testBit (n - 1 - i)] := by
  rw [List.take_succ_eq_append_getElem (by rw [bitsN_length]; exact h), bitsN_get x n i h]
/-- Bits as a number. -/
def num (l : List Bool) : Nat := l.foldl (fun a b => 2 * a + b.toNat) 0
theorem num_snoc (l : List Bool) (b : Bool) : num (l ++ [b]) = 2 * num l + b.toNat := by simp [num]
theorem num_take (x n : Nat) (i : Nat) (hi : i ≤ n) : num ((bitsN x n).take i) = x % 2 ^ n / 2 ^ (n - i) := by
  induction i with
  | zero => rw [List.take_zero, Nat.sub_zero, Nat.div_eq_of_lt (Nat.mod_lt _ (Nat.two_pow_pos n))]; rfl
  | succ i ih =>
    rw [bitsN_take x n i (by omega), num_snoc, ih (by omega)]
    have e : n - i = (n - (i + 1)) + 1 := by omega
    have e2 : n - 1 - i = n - (i + 1) := by omega
    have hb : x.testBit (n - (i + 1)) = (x % 2 ^ n).testBit (n - (i + 1)) := by
      rw [Nat.testBit_mod_two_pow]; simp; omega
    rw [e, Nat.pow_succ, ← Nat.div_div_eq_div_mul, e2, hb, Nat.testBit_eq_decide_div_mod_eq]
    generalize x % 2 ^ n / 2 ^ (n - (i + 1)) = q
    have := Nat.mod_two_eq_zero_or_one q
    rcases this with h | h <;> rw [h] <;> simp <;> omega
theorem num_bitsN (x n : Nat) : num (bitsN x n) = x % 2 ^ n := by
  have := num_take x n n (Nat.le_refl _)
  rw [List.take_of_length_le (by rw [bitsN_length]; omega), Nat.sub_self] at this
  simpa using this
end Go.Proofs.Ythhfogpkaeminaa.Bits
