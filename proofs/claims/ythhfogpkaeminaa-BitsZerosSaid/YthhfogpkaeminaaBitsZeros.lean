/- The walk of the law BitsZeros. -/
import Derived.Test.YthhfogpkaeminaaBitsZero
namespace Go.Proofs.Ythhfogpkaeminaa
open Go.RowKit Go.Sort
/-- How many ones there are from p to q. -/
def ones (L : List Bool) (p q : Nat) : Nat := (((L.drop p).take (q - p)).filter id).length
theorem ones_le (L : List Bool) (p q : Nat) : ones L p q ≤ q - p := by
  unfold ones
  exact Nat.le_trans (List.length_filter_le _ _) (by rw [List.length_take]; omega)
theorem ones_succ (L : List Bool) (p q : Nat) (hpq : p ≤ q) (hq : q < L.length) : ones L p (q + 1) = ones L p q + (L.getD q false).toNat := by
  unfold ones
  rw [show q + 1 - p = (q - p) + 1 by omega, drop_take_succ L p (q - p) (by omega), List.filter_append, List.length_append, show p + (q - p) = q by omega]
  cases L.getD q false <;> simp
theorem ones_zero (L : List Bool) (p : Nat) : zerosOf L p = decide (ones L p L.length = 0) := by
  unfold ones zerosOf
  rw [List.take_of_length_le (by rw [List.length_drop]; omega)]
  induction L.drop p with
  | nil => rfl
  | cons b l ih => cases b <;> simp [ih]
set_option maxRecDepth 100000 in
set_option maxHeartbeats 1000000 in
theorem bitsZeros_walk (s : ByteArray) (n : Int) (w : World) (_hs : s.size ≤ 140737488351232) (hn : (Lit.int .u8 n).wf = true) :
    Calls Try.prog 13 #[.string s, .int .u8 n] w fun e w' => e = .returned (.bool true) ∧ Below w.heap.size w w' := by
  clear _hs
  have hb0 := Below.refl w.heap.size w
  have hn' : 0 ≤ n ∧ n ≤ 255 := by simp only [Lit.wf, Bool.and_eq_true, decide_eq_true_eq] at hn; exact hn
  clear hn
  obtain ⟨a, rfl⟩ := Int.eq_ofNat_of_zero_le hn'.1
  obtain ⟨_, hn1⟩ := hn'
  by_cases h300 : s.size ≤ 300
  · have hall : ∃ P : Nat, P ≤ 8 * s.size ∧ ∀ (b : Nat) (W : World) (X : Int), X = min ((a : Int) % 57) (8 * (s.size : Int)) → Rd W b s 0 → Calls Try.prog 27 #[.pointer (some ⟨b, 0, none⟩), .int .i64 X] W fun e w' => (∃ v, e = .returned v) ∧ Rd w' b s P ∧ Keep W w' [b] := by
      obtain ⟨P, hP⟩ : ∃ P : Nat, min ((a : Int) % 57) (8 * (s.size : Int)) = P := ⟨min (a % 57) (8 * s.size), by omega⟩
      have hP1 : P ≤ 56 := by omega
      have hP2 : P ≤ 8 * s.size := by omega
      refine ⟨P, hP2, fun b W X hX hR => ?_⟩
      rw [hX, hP]
      refine (get_ok s 0 P hP1 (by omega) (by omega) b W hR).mono fun e w' ⟨h1, h2, h3⟩ => ⟨⟨_, h1⟩, ?_, h3⟩
      rw [Nat.zero_add] at h2; exact h2
    obtain ⟨P, hP2, hget⟩ := hall
    have hget1 := fun b W hm => hget b W ((a : Int) % 57) hm
    have hget2 := fun b W hm => hget b W (8 * (s.size : Int)) hm
    have HG1 := Lib.hid hget1
    have HG2 := Lib.hid hget2
    clear hget hget1 hget2
    by_cases hmin : (a : Int) % 57 ≤ 8 * (s.size : Int)
    all_goals
      go_enter Try.func13, Try.ntmps13
      go_wp2_with (first | (go_at_call 17; (with_reducible refine (on_base (by assumption) (bitsAwake_is _)).mono ?_); rintro e w1 ⟨rfl, hb1⟩) | (go_at_call 30; (with_reducible refine (new_is _ _).mono ?_); rintro e w2 ⟨rfl, hR2, hb2⟩) | (go_at_call 28; (with_reducible refine (left_is s 0 (by omega) _ _ hR2).mono ?_); rintro e w3 ⟨rfl, hk3⟩) | (go_at_call 27; (with_reducible refine (HG1.out _ _ (by omega) (hR2.keep hk3 (by simp))).mono ?_); rintro e w4 ⟨⟨v4, rfl⟩, hR4, hk4⟩) | (go_at_call 27; (with_reducible refine (HG2.out _ _ (by omega) (hR2.keep hk3 (by simp))).mono ?_); rintro e w4 ⟨⟨v4, rfl⟩, hR4, hk4⟩) | (go_at_call 29; (with_reducible refine (zeros_is s P (by omega) _ _ hR4).mono ?_); rintro e w5 ⟨rfl, hb5⟩; have hR5 := hR4.keep (Keep.of_below hb5 []) (by simp)) | (go_at_call 28; (with_reducible refine (left_is s P (by omega) _ _ hR5).mono ?_); rintro e w6 ⟨rfl, hk6⟩; have hR6 := hR5.keep hk6 (by simp)))
      have hB2 : Below w.heap.size w w2 := hb1.trans (hb2.mono hb1.size)
      have hB6 : Below w.heap.size w w6 := by
        have h3 := hk3.below hB2 (by simp)
        have h4 := hk4.below h3 (by have := hb1.size; simpa using this)
        exact hk6.below (h4.trans (hb5.mono h4.size)) (by simp)
      have hbw : w.heap.size ≤ w1.heap.size := hb1.size
      obtain ⟨b, hbe⟩ : ∃ b, b = w1.heap.size := ⟨_, rfl⟩
      rw [← hbe] at hR6 hbw
      rw [← hbe]
      clear hbe hb1 hb2 hk3 hk4 hb5 hk6 hR2 hR4 hR5 hB2 hmin
      go_loopw [8] (fun x wr => ∃ q : Nat, P ≤ q ∧ x = .int .i64 (ones (textBits s) P q : Nat) ∧ Rd wr b s q ∧ Below w.heap.size w wr) (fun _ wr => 8 * s.size - posOf wr b)
      case atStart => exact ⟨P, Nat.le_refl _, by simp [ones], hR6, hB6⟩
      case round =>
        clear hR6 hB6
        obtain ⟨q, hq, rfl, hR, hb⟩ := hrel
        have hq2 := hR.2
        have hpos := posOf_rd hR
        have hleft := left_is s q (by omega) _ wr hR
        by_cases hlt : q < 8 * s.size
        · have hlen := textBits_length s
          have hgt : 0 < 8 * (s.size : Int) - q := by omega
          have hon := ones_succ (textBits s) P q hq (by rw [hlen]; exact hlt)
          have hone := ones_le (textBits s) P q
          have hnum : Bits.num (((textBits s).drop q).take 1) = ((textBits s).getD q false).toNat := by
            have := drop_take_succ (textBits s) q 0 (by rw [hlen]; exact hlt)
            rw [Nat.zero_add, List.take_zero, List.nil_append, Nat.add_zero] at this
            rw [this]; simp [Bits.num]
          obtain ⟨t, ht⟩ : ∃ t : Nat, t = ((textBits s).getD q false).toNat := ⟨_, rfl⟩
          have ht1 : t ≤ 1 := by rw [ht]; exact Bool.toNat_le _
          rw [← ht] at hon hnum
          have hgetq : ∀ W, Keep wr W [] → Calls Try.prog 27 #[.pointer (some ⟨b, 0, none⟩), .int .i64 1] W fun e w' => e = .returned (.tuple #[.int .i64 (t : Int), .int .i64 0]) ∧ Rd w' b s (q + 1) ∧ Keep W w' [b] := fun W hW => by
            have := get_ok s q 1 (by omega) (by omega) (by omega) b W (hR.keep hW (by simp))
            rw [hnum] at this
            exact this
          obtain ⟨S, hS⟩ : ∃ S, S = ones (textBits s) P q := ⟨_, rfl⟩
          rw [← hS] at hon hone
          rw [← hS]
          have hS1 : S ≤ 2400 := by omega
          have HON := Lib.hid hon
          have HP := Lib.hid hpos
          clear hon hone hnum ht hS hlen hR hpos
          go_wp2_with (first | (go_at_call 28; (with_reducible refine hleft.mono ?_); rintro e w7 ⟨rfl, hk7⟩) | (go_at_call 27; (with_reducible refine (hgetq _ hk7).mono ?_); rintro e w8 ⟨rfl, hR8, hk8⟩))
          go_roundw
          case rel => exact ⟨q + 1, by omega, by rw [HON.out]; go_num, hR8, hk8.below (hk7.below hb (by simp)) (by simpa using hbw)⟩
          case measure => rw [posOf_rd hR8, HP.out]; omega
        · obtain rfl : q = 8 * s.size := by omega
          have hle : 8 * (s.size : Int) - ((8 * s.size : Nat) : Int) ≤ 0 := by omega
          have hz := ones_zero (textBits s) P
          rw [textBits_length] at hz
          have hze : zerosOf (textBits s) (8 * s.size) = true := by
            unfold zerosOf
            rw [List.drop_eq_nil_of_le (by rw [textBits_length]; omega)]; rfl
          have hzer : ∀ W, Keep wr W [] → Calls Try.prog 29 #[.pointer (some ⟨b, 0, none⟩)] W fun e w' => e = .returned (.bool true) ∧ Below W.heap.size W w' := fun W hW => by
            have := zeros_is s _ (by omega) _ W (hR.keep hW (by simp))
            rw [hze] at this; exact this
          obtain ⟨S, hS⟩ : ∃ S, S = ones (textBits s) P (8 * s.size) := ⟨_, rfl⟩
          rw [← hS] at hz
          rw [← hS]
          clear hS hze hR hpos
          by_cases hS0 : S = 0
          · subst hS0
            rw [decide_eq_true rfl] at hz
            go_wp2_with (first | (go_at_call 28; (with_reducible refine hleft.mono ?_); rintro e w7 ⟨rfl, hk7⟩; have hb7 := hk7.below hb (by simp)) | (go_at_call 29; (with_reducible refine (on_base hb7 (hzer _ hk7)).mono ?_); rintro e w8 ⟨rfl, hb8⟩))
            go_ret
            exact ⟨rfl, hb8⟩
          · rw [decide_eq_false hS0] at hz
            have hS0' : ((S : Int) == 0) = false := by simp [hS0]
            go_wp2_with (first | (go_at_call 28; (with_reducible refine hleft.mono ?_); rintro e w7 ⟨rfl, hk7⟩; have hb7 := hk7.below hb (by simp)) | (go_at_call 29; (with_reducible refine (on_base hb7 (hzer _ hk7)).mono ?_); rintro e w8 ⟨rfl, hb8⟩))
            go_ret
            exact ⟨rfl, hb8⟩
  · go_enter Try.func13, Try.ntmps13
    go_wp2_with (go_at_call 17; (with_reducible refine (on_base (by assumption) (bitsAwake_is _)).mono ?_); rintro e w1 ⟨rfl, hb1⟩)
    go_ret
    exact ⟨rfl, by assumption⟩
end Go.Proofs.Ythhfogpkaeminaa
