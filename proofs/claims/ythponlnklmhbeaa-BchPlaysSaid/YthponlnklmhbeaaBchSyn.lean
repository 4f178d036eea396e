/- The walks of bch.Info, Syndromes, Is. -/
import Derived.Test.YthponlnklmhbeaaBchWord
import Derived.Laws.Bits64
set_option linter.unusedVariables false
set_option linter.unusedSimpArgs false
namespace Go.Proofs.Ythponlnklmhbeaa
open Go.RowKit Go.Sort F7
theorem wrap_u64_nat (a : Nat) : IntKind.u64.wrap (a : Int) = ((a % 2 ^ 64 : Nat) : Int) := by
  rw [IntKind.wrap_u64, Int.natCast_emod]; rfl
theorem wraps_u64 (n : Int) (h₀ : 0 ≤ n) (h₁ : n < 2 ^ 64) : IntKind.u64.wrap n = n := by rw [IntKind.wrap_u64]; omega
theorem or_u64 (a b : Nat) (ha : a < 2 ^ 64) (hb : b < 2 ^ 64) : bits .or .u64 (a : Int) (b : Int) = ((a ||| b : Nat) : Int) := (bits_nat .u64 64 (by decide) wraps_u64 a b ha hb).2
theorem and_u64 (a b : Nat) (ha : a < 2 ^ 64) (hb : b < 2 ^ 64) : bits .and .u64 (a : Int) (b : Int) = ((a &&& b : Nat) : Int) := (bits_nat .u64 64 (by decide) wraps_u64 a b ha hb).1
theorem xor_u64 (a b : Nat) (ha : a < 2 ^ 64) (hb : b < 2 ^ 64) : bits .xor .u64 (a : Int) (b : Int) = ((a ^^^ b : Nat) : Int) := bits_xor_u64_nat a b ha hb
/-- What the first k upper bits of a word tell. -/
def info (f : Nat → Bool) : Nat → Nat
  | 0 => 0
  | k + 1 => info f k + if f (63 + k) = true then 2 ^ k else 0
theorem info_lt (f : Nat → Bool) (k : Nat) : info f k < 2 ^ k := by
  induction k with
  | zero => simp [info]
  | succ k ih =>
    rw [info, Nat.pow_succ]
    split <;> omega
theorem info_bit (f : Nat → Bool) (k : Nat) : ∀ i, i < k → (info f k).testBit i = f (63 + i) := by
  induction k with
  | zero => intro i hi; omega
  | succ k ih =>
    intro i hi
    have hlt := info_lt f k
    rw [info]
    by_cases hf : f (63 + k) = true
    · rw [if_pos hf, Nat.add_comm]
      by_cases e : i = k
      · subst e
        rw [Nat.testBit_two_pow_add_eq, Nat.testBit_lt_two_pow hlt, hf]; rfl
      · rw [Nat.testBit_two_pow_add_gt (by omega), ih i (by omega)]
    · rw [if_neg hf, Nat.add_zero]
      by_cases e : i = k
      · subst e
        rw [Nat.testBit_lt_two_pow hlt]
        cases h : f (63 + i)
        · rfl
        · exact absurd h hf
      · exact ih i (by omega)
theorem info_step (f : Nat → Bool) (k : Nat) (hk : k < 64) (hf : f (63 + k) = true) : bits BinOp.or IntKind.u64 (info f k : Nat) (IntKind.u64.wrap ((2 : Int) ^ k)) = ((info f (k + 1) : Nat) : Int) := by
  have hlt := info_lt f k
  have e : (2 : Int) ^ k = ((2 ^ k : Nat) : Int) := by rw [Int.natCast_pow]; rfl
  have h2 : 2 ^ k < 2 ^ 64 := Nat.pow_lt_pow_right (by decide) hk
  rw [e, wrap_u64_nat, Nat.mod_eq_of_lt h2, or_u64 _ _ (by omega) h2]
  congr 1
  rw [info, if_pos hf]
  have := Nat.shiftLeft_add_eq_or_of_lt hlt 1
  rw [Nat.shiftLeft_eq, Nat.one_mul] at this
  rw [Nat.or_comm, ← this, Nat.add_comm]
set_option maxRecDepth 100000 in
theorem info_is (f : Nat → Bool) (w : World) : Calls Try.prog 35 #[.agg (wordV f)] w fun e w' => e = .returned (.int .u64 (info f 64 : Nat)) ∧ Below w.heap.size w w' := by
  obtain ⟨b, hb⟩ : ∃ b, b = w.heap.size := ⟨_, rfl⟩
  obtain ⟨W, hW⟩ : ∃ W, W = w.alloc (.cells (wordV f) 41) := ⟨_, rfl⟩
  have h1 : Wd 41 W b f := by rw [hW, hb]; exact Wd.boxed w 41 f
  have HB : Hid (Below w.heap.size w W) := by show Below w.heap.size w W; rw [hW]; exact (Below.refl _ _).alloc (Nat.le_refl _) _
  have H1 := Lib.hid h1
  have HW := Lib.hid hW
  have hb' := hb.symm
  clear h1 hW hb
  go_enter Try.func35, Try.ntmps35
  go_wp2
  rw [← HW.out]
  clear HW hb'
  go_loop [3, 5] (fun x i => ∃ k : Nat, k ≤ 64 ∧ i = .int .i64 k ∧ x = .int .u64 (info f k : Nat)) (fun _ i => 64 - (intOf i).toNat)
  case atStart => exact ⟨0, by omega, rfl, rfl⟩
  case round =>
    obtain ⟨k, hk, rfl, rfl⟩ := hrel
    by_cases hlt : k < 64
    · have c1 : W.cell? ⟨b, 63 + k, none⟩ = some (.bool (f (63 + k))) := H1.out.cell (63 + k) (by omega)
      have hst := info_step f k hlt
      have hno : f (63 + k) = false → info f (k + 1) = info f k := fun h => by rw [info, h]; rfl
      cases hf : f (63 + k) with
      | true =>
        rw [hf] at c1
        have HST := Lib.hid (hst hf)
        clear hst hno hf
        go_wp2
        go_round
        case rel => exact ⟨k + 1, by omega, by go_num, by rw [HST.out]⟩
        case measure => simp [intOf]; omega
      | false =>
        rw [hf] at c1
        have HNO := Lib.hid (hno hf)
        clear hst hno hf
        go_wp2
        go_round
        case rel => exact ⟨k + 1, by omega, by go_num, by rw [HNO.out]⟩
        case measure => simp [intOf]; omega
    · obtain rfl : k = 64 := by omega
      go_wp2
      go_ret
      exact ⟨rfl, HB.out⟩
end Go.Proofs.Ythponlnklmhbeaa
