/- What was laid, as it is read again. -/
import Derived.Test.YthhfogpkaeminaaBitsZero
namespace Go.Proofs.Ythhfogpkaeminaa
open Go.RowKit Go.Sort
theorem t0 : ∀ a b c d e f g h : Bool, (Bits.b8 a b c d e f g h).testBit 7 = a ∧ (Bits.b8 a b c d e f g h).testBit 6 = b ∧ (Bits.b8 a b c d e f g h).testBit 5 = c ∧ (Bits.b8 a b c d e f g h).testBit 4 = d ∧ (Bits.b8 a b c d e f g h).testBit 3 = e ∧ (Bits.b8 a b c d e f g h).testBit 2 = f ∧ (Bits.b8 a b c d e f g h).testBit 1 = g ∧ (Bits.b8 a b c d e f g h).testBit 0 = h := by decide
theorem byte8_bit (f : Nat → Bool) (j : Nat) (hj : j < 8) : (Bits.byte8 f).testBit (7 - j) = f j := by
  rw [Bits.byte8_b8]
  obtain ⟨h0, h1, h2, h3, h4, h5, h6, h7⟩ := t0 (f 0) (f 1) (f 2) (f 3) (f 4) (f 5) (f 6) (f 7)
  have : j = 0 ∨ j = 1 ∨ j = 2 ∨ j = 3 ∨ j = 4 ∨ j = 5 ∨ j = 6 ∨ j = 7 := by omega
  rcases this with rfl | rfl | rfl | rfl | rfl | rfl | rfl | rfl
  · exact h0
  · exact h1
  · exact h2
  · exact h3
  · exact h4
  · exact h5
  · exact h6
  · exact h7
theorem textBits_packed_getD (L : List Bool) (p : Nat) : (textBits (packed L)).getD p false = L.getD p false := by
  by_cases hp : p < (textBits (packed L)).length
  · have hl : p < 8 * (Bits.pack L).length := by
      rw [textBits_length, ← bs_length, bs_packed] at hp; exact hp
    unfold textBits
    rw [bs_packed, byteBits_getD _ _ hl]
    have hi : p / 8 < (L.length + 7) / 8 := by rw [Bits.pack_length] at hl; omega
    rw [List.getD_eq_getElem?_getD, List.getElem?_eq_getElem (by rw [Bits.pack_length]; exact hi), Option.getD_some, Bits.pack_get _ _ hi, byte8_bit _ _ (Nat.mod_lt _ (by omega))]
    congr 1; omega
  · have hl : (textBits (packed L)).length = 8 * ((L.length + 7) / 8) := by rw [textBits_length, ← bs_length, bs_packed, Bits.pack_length]
    rw [List.getD_eq_getElem?_getD, List.getElem?_eq_none (by omega), List.getD_eq_getElem?_getD, List.getElem?_eq_none (by omega)]
theorem packed_size (L : List Bool) : 8 * (packed L).size = 8 * ((L.length + 7) / 8) := by rw [← bs_length, bs_packed, Bits.pack_length]
theorem textBits_take (L : List Bool) (p n : Nat) (h : p + n ≤ L.length) : ((textBits (packed L)).drop p).take n = (L.drop p).take n := by
  have hl : (textBits (packed L)).length = 8 * ((L.length + 7) / 8) := by rw [textBits_length, packed_size]
  apply List.ext_getElem
  · simp only [List.length_take, List.length_drop]; omega
  · intro i h1 h2
    simp only [List.length_take, List.length_drop] at h1 h2
    simp only [List.getElem_take, List.getElem_drop]
    have h3 := textBits_packed_getD L (p + i)
    rw [List.getD_eq_getElem?_getD, List.getD_eq_getElem?_getD, List.getElem?_eq_getElem (by omega), List.getElem?_eq_getElem (by omega)] at h3
    simpa using h3
theorem zeros_packed (L : List Bool) : zerosOf (textBits (packed L)) L.length = true := by
  unfold zerosOf
  rw [List.all_eq_true]
  intro b hb
  obtain ⟨i, hi, rfl⟩ := List.mem_iff_getElem.1 hb
  rw [List.length_drop] at hi
  rw [List.getElem_drop]
  have h3 := textBits_packed_getD L (L.length + i)
  rw [List.getD_eq_getElem?_getD, List.getD_eq_getElem?_getD, List.getElem?_eq_getElem (by omega), List.getElem?_eq_none (by omega)] at h3
  simp at h3
  simp [h3]
/-- Numbers that fit. -/
def Fit (p : Int × Int) : Prop := putErr p.1 p.2 = 0
instance (p : Int × Int) : Decidable (Fit p) := by unfold Fit; exact inferInstance
def fit (zs : List (Int × Int)) : List (Int × Int) := zs.filter fun p => decide (Fit p)
theorem lay_fit (zs : List (Int × Int)) : lay (fit zs) = lay zs := by
  induction zs with
  | nil => rfl
  | cons p zs ih =>
    unfold fit lay at *
    rw [List.filter_cons]
    by_cases h : Fit p
    · simp only [h, decide_true, if_true, List.flatMap_cons]; rw [ih]
    · simp only [h, decide_false, Bool.false_eq_true, if_false, List.flatMap_cons]
      rw [putBits_err p.1 p.2 h, List.nil_append, ih]
theorem fit_take (zs : List (Int × Int)) (k : Nat) (hk : k < zs.length) : fit (zs.take (k + 1)) = fit (zs.take k) ++ if Fit (zs.getD k (0, 0)) then [zs.getD k (0, 0)] else [] := by
  rw [List.take_succ_eq_append_getElem hk]
  unfold fit
  rw [List.filter_append]
  simp only [List.getD_eq_getElem?_getD, List.getElem?_eq_getElem hk, Option.getD_some, List.filter_cons, List.filter_nil]
  by_cases h : Fit zs[k] <;> simp [h]
theorem fit_bits (p : Int × Int) (h : Fit p) : 0 ≤ p.2 ∧ p.2 ≤ 56 ∧ 0 ≤ p.1 ∧ p.1 < 2 ^ p.2.toNat ∧ putBits p.1 p.2 = Bits.bitsN p.1.toNat p.2.toNat := by
  have h' : putErr p.1 p.2 = 0 := h
  have hb : putBits p.1 p.2 = Bits.bitsN p.1.toNat p.2.toNat := by unfold putBits; rw [if_pos h']
  unfold putErr at h'
  split at h'
  · simp at h'
  · split at h'
    · simp at h'
    · exact ⟨by omega, by omega, by omega, by omega, hb⟩
theorem fit_num (p : Int × Int) (h : Fit p) : ((Bits.num (putBits p.1 p.2) : Nat) : Int) = p.1 ∧ (((putBits p.1 p.2).length : Nat) : Int) = p.2 := by
  obtain ⟨h1, h2, h3, h4, h5⟩ := fit_bits p h
  rw [h5, Bits.num_bitsN, Bits.bitsN_length]
  constructor
  · have hlt : p.1.toNat < 2 ^ p.2.toNat := by
      have : (p.1.toNat : Int) < ((2 ^ p.2.toNat : Nat) : Int) := by
        rw [Int.toNat_of_nonneg h3, Int.natCast_pow]; exact h4
      exact Int.ofNat_lt.1 this
    rw [Nat.mod_eq_of_lt hlt, Int.toNat_of_nonneg h3]
  · exact Int.toNat_of_nonneg h1
theorem lay_split (zs : List (Int × Int)) (k : Nat) (hk : k < zs.length) : ((lay zs).drop (lay (zs.take k)).length).take (putBits (zs.getD k (0, 0)).1 (zs.getD k (0, 0)).2).length = putBits (zs.getD k (0, 0)).1 (zs.getD k (0, 0)).2 := by
  have h1 : lay zs = lay (zs.take k) ++ (putBits (zs.getD k (0, 0)).1 (zs.getD k (0, 0)).2 ++ lay (zs.drop (k + 1))) := by
    conv => lhs; rw [← List.take_append_drop (k + 1) zs]
    have : lay (zs.take (k + 1) ++ zs.drop (k + 1)) = lay (zs.take (k + 1)) ++ lay (zs.drop (k + 1)) := by unfold lay; rw [List.flatMap_append]
    rw [this, lay_take zs k hk, List.append_assoc]
  rw [h1, List.drop_left, List.take_left]
theorem lay_le (zs : List (Int × Int)) (k : Nat) (hk : k < zs.length) : (lay (zs.take k)).length + (putBits (zs.getD k (0, 0)).1 (zs.getD k (0, 0)).2).length ≤ (lay zs).length := by
  have := congrArg List.length (lay_split zs k hk)
  rw [List.length_take, List.length_drop] at this
  have h2 : (lay (zs.take k)).length ≤ (lay zs).length := by
    conv => rhs; rw [← List.take_append_drop k zs]
    have : lay (zs.take k ++ zs.drop k) = lay (zs.take k) ++ lay (zs.drop k) := by unfold lay; rw [List.flatMap_append]
    rw [this, List.length_append]; omega
  omega
end Go.Proofs.Ythhfogpkaeminaa
