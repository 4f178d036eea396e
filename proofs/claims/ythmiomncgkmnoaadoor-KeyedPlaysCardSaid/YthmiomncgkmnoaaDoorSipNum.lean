/- The number of up to eight bytes: the walk of sip.number. -/
import Derived.Test.YthmiomncgkmnoaaDoorSipRound
import Derived.Test.YthmiomncgkmnoaaDoorSipWordPure
set_option linter.unusedVariables false
set_option linter.unusedSimpArgs false
namespace Go.Proofs.YthmiomncgkmnoaaDoor
open Go.RowKit Go.Sort Sip
theorem bytes_bs (s : ByteArray) : Bytes (bs s) := bs_lt s
theorem p256 (i : Nat) : 256 ^ i = 2 ^ (8 * i) := by rw [Nat.pow_mul]
theorem num_lt (l : List Nat) (h : Bytes l) (hl : l.length ≤ 8) : le l < 2 ^ 64 := by
  have h1 := le_lt l h
  rw [p256] at h1
  exact Nat.lt_of_lt_of_le h1 (Nat.pow_le_pow_right (by decide) (by omega))
theorem num_or (l : List Nat) (c i : Nat) (h : Bytes l) (hc : c < 256) (hi : l.length = i) (h8 : i < 8) : bits BinOp.or IntKind.u64 (le l : Nat) (IntKind.u64.wrap ((c : Int) * 2 ^ (8 * i))) = ((le (l ++ [c]) : Nat) : Int) := by
  have e1 : (c : Int) * 2 ^ (8 * i) = ((c * 2 ^ (8 * i) : Nat) : Int) := by rw [Int.natCast_mul, Int.natCast_pow]; rfl
  have h1 := le_lt l h
  rw [hi, p256] at h1
  have h2 : c * 2 ^ (8 * i) < 2 ^ 64 := by
    have : (2 : Nat) ^ 64 = 2 ^ (64 - 8 * i) * 2 ^ (8 * i) := by rw [← Nat.pow_add]; congr 1; omega
    rw [this]
    refine Nat.mul_lt_mul_of_pos_right (Nat.lt_of_lt_of_le (show c < 2 ^ 8 from hc) (Nat.pow_le_pow_right (by decide) (by omega))) (Nat.pow_pos (by decide))
  rw [e1, wrap_u64_nat, Nat.mod_eq_of_lt h2, or_u64 _ _ (num_lt l h (by omega)) h2]
  congr 1
  rw [le_snoc, hi, p256, Nat.or_comm, ← Nat.shiftLeft_eq, ← Nat.shiftLeft_add_eq_or_of_lt h1, Nat.shiftLeft_eq, Nat.add_comm, Nat.mul_comm]
set_option maxRecDepth 100000 in
theorem number_is (s : ByteArray) (hs : s.size ≤ 8) (w : World) : Calls Tryd.prog 42 #[.string s] w fun e w' => e = .returned (.int .u64 (le (bs s) : Nat)) ∧ w' = w := by
  go_enter Tryd.func42, Tryd.ntmps42
  go_wp2
  go_loop [3, 7] (fun x i => ∃ k : Nat, k ≤ s.size ∧ i = .int .i64 k ∧ x = .int .u64 (le ((bs s).take k) : Nat)) (fun _ i => s.size - (intOf i).toNat)
  case atStart => exact ⟨0, Nat.zero_le _, rfl, rfl⟩
  case round =>
    obtain ⟨k, hk, rfl, rfl⟩ := hrel
    by_cases hlt : k < s.size
    · have hw : IntKind.u64.wrap ((s[k]'hlt).toNat : Int) = ((s[k]'hlt).toNat : Int) := by
        have := (s[k]'hlt).toNat_lt
        exact wraps_u64 _ (by omega) (by omega)
      have hnx := num_or ((bs s).take k) (s[k]'hlt).toNat k ((bytes_bs s).take k) (s[k]'hlt).toNat_lt (by rw [List.length_take, bs_length]; omega) (by omega)
      rw [← bs_take_succ s k hlt, ← hw] at hnx
      have HX := Lib.hid hnx
      clear hnx hw
      go_wp2
      go_round
      case rel => exact ⟨k + 1, by omega, by go_num, by rw [HX.out]⟩
      case measure => simp [intOf]; omega
    · obtain rfl : k = s.size := by omega
      rw [List.take_of_length_le (by rw [bs_length]; omega)]
      go_wp2
      go_ret
      exact ⟨rfl, rfl⟩
end Go.Proofs.YthmiomncgkmnoaaDoor
