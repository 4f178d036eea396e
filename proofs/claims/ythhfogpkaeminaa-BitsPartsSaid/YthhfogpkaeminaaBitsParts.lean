/- The walk of the law BitsParts. -/
import Derived.Test.YthhfogpkaeminaaBitsPut
import Derived.BigQuiet
import Derived.Deep.RegionWith
namespace Go.Proofs.Ythhfogpkaeminaa
open Go.RowKit Go.Sort
theorem Bits.bitsN_split (y K D : Nat) : Bits.bitsN y (K + D) = Bits.bitsN (y / 2 ^ D) K ++ Bits.bitsN (y % 2 ^ D) D := by
  apply List.ext_getElem
  · simp [Bits.bitsN_length]
  · intro i h1 h2
    rw [Bits.bitsN_length] at h1
    rw [Bits.bitsN_get _ _ _ h1]
    by_cases h : i < K
    · rw [List.getElem_append_left (by rw [Bits.bitsN_length]; exact h), Bits.bitsN_get _ _ _ h, Nat.testBit_div_two_pow]
      congr 1; omega
    · rw [List.getElem_append_right (by rw [Bits.bitsN_length]; omega)]
      simp only [Bits.bitsN_length]
      rw [Bits.bitsN_get _ _ _ (by omega), Nat.testBit_mod_two_pow]
      have h3 : D - 1 - (i - K) < D := by omega
      simp only [h3, decide_true, Bool.true_and]
      congr 1; omega
theorem below_laid {w0 w w1 : World} {k : Nat} {F : List Nat} {l : List Bool} (hb : Below w0.heap.size w0 w) (hk : w0.heap.size ≤ k) (hF : ∀ j ∈ F, w0.heap.size ≤ j) (h : Laid w k F l w1) : Below w0.heap.size w0 w1 := by
  obtain ⟨F1, _, h2, _⟩ := h
  refine h2.below hb ?_
  intro j hj
  rcases List.mem_cons.1 hj with h | h
  · omega
  · exact hF j h
theorem w64_nat (n : Nat) (h : n ≤ 72057594037927936) : wrap64 (n : Int) = (n : Int) := by unfold wrap64; omega
theorem k64_nat (n : Nat) (h : n ≤ 72057594037927936) : IntKind.i64.wrap (n : Int) = (n : Int) := by rw [IntKind.wrap_i64]; omega
theorem ku64_nat (n : Nat) (h : n ≤ 72057594037927936) : IntKind.u64.wrap (n : Int) = (n : Int) := by rw [IntKind.wrap_u64]; omega
theorem ne0_nat (n : Nat) (h : 0 < n) : ¬ ((n : Int) = 0) := by omega
set_option maxRecDepth 100000 in
set_option maxHeartbeats 1000000 in
theorem bitsParts_walk (x n cut : Int) (w : World) (hx : (Lit.int .u64 x).wf = true) (hn : (Lit.int .u8 n).wf = true) (hc : (Lit.int .u8 cut).wf = true) :
    Calls Try.prog 5 #[.int .u64 x, .int .u8 n, .int .u8 cut] w fun e w' => e = .returned (.bool true) ∧ Below w.heap.size w w' := by
  have hb0 := Below.refl w.heap.size w
  have hx' : 0 ≤ x ∧ x ≤ 18446744073709551615 := by simp only [Lit.wf, Bool.and_eq_true, decide_eq_true_eq] at hx; exact hx
  have hn' : 0 ≤ n ∧ n ≤ 255 := by simp only [Lit.wf, Bool.and_eq_true, decide_eq_true_eq] at hn; exact hn
  have hc' : 0 ≤ cut ∧ cut ≤ 255 := by simp only [Lit.wf, Bool.and_eq_true, decide_eq_true_eq] at hc; exact hc
  clear hx hn hc
  obtain ⟨X, rfl⟩ := Int.eq_ofNat_of_zero_le hx'.1
  obtain ⟨a, rfl⟩ := Int.eq_ofNat_of_zero_le hn'.1
  obtain ⟨c, rfl⟩ := Int.eq_ofNat_of_zero_le hc'.1
  obtain ⟨M, hM⟩ : ∃ M : Nat, (a : Int) % 57 = M := ⟨a % 57, by omega⟩
  have hM1 : M ≤ 56 := by omega
  obtain ⟨K, hK⟩ : ∃ K : Nat, (c : Int) % ((M : Int) + 1) = K := ⟨c % (M + 1), by rw [Int.natCast_emod]; rfl⟩
  have hK1 : K ≤ M := by
    have := Int.emod_lt_of_pos (c : Int) (show (0 : Int) < (M : Int) + 1 by omega)
    omega
  obtain ⟨P, hP⟩ : ∃ P : Nat, P = 2 ^ M := ⟨_, rfl⟩
  have hP0 : 0 < P := by rw [hP]; exact Nat.two_pow_pos M
  have hPle : P ≤ 72057594037927936 := by rw [hP]; exact Nat.pow_le_pow_right (j := 56) (by decide) hM1
  have hw : IntKind.u64.wrap (2 ^ M) = (P : Int) := by
    have e : ((2 : Int) ^ M) = (P : Int) := by rw [hP, Int.natCast_pow]; rfl
    rw [e]; exact ku64_nat P hPle
  obtain ⟨Y, hY⟩ : ∃ Y : Nat, Y = X % P := ⟨_, rfl⟩
  have hYlt : Y < P := by rw [hY]; exact Nat.mod_lt _ hP0
  have hYI : (X : Int) % (P : Int) = (Y : Int) := by rw [hY, Int.natCast_emod]
  have hYW := w64_nat Y (by omega)
  have hPne := ne0_nat P hP0
  have hn0 := hn'.2
  have hc0 := hc'.2
  have HX := Lib.hid hx'
  have HY := Lib.hid (And.intro hP (And.intro hPle hYlt))
  clear hx' hn' hc' hP hPle hYlt hY
  go_enter Try.func5, Try.ntmps5
  go_wp2_with (go_at_call 17; (with_reducible refine (on_base (by assumption) (bitsAwake_is _)).mono ?_); rintro e w1 ⟨rfl, hb1⟩)
  simp only [hM, hK, hYI, hYW]
  clear hK hYI hYW hM hw
  have hsz : w.heap.size ≤ w1.heap.size := hb1.size
  obtain ⟨b, hb⟩ : ∃ b, b = w1.heap.size := ⟨_, rfl⟩
  have hv0 : Wr ((w1.alloc (.cells #[.slice none 0 0, .int .i64 0] 31)).alloc (.cells #[.slice none 0 0, .int .i64 0] 31)) b [] [] := by
    rw [hb]; exact (wr_new w1).below ((Below.refl _ _).alloc (Nat.le_refl _) _)
  have hw0 : Wr ((w1.alloc (.cells #[.slice none 0 0, .int .i64 0] 31)).alloc (.cells #[.slice none 0 0, .int .i64 0] 31)) (b + 1) [] [] := by
    have := wr_new (w1.alloc (.cells #[.slice none 0 0, .int .i64 0] 31))
    rw [World.size_alloc, ← hb] at this; exact this
  have hB0 : Below w.heap.size w ((w1.alloc (.cells #[.slice none 0 0, .int .i64 0] 31)).alloc (.cells #[.slice none 0 0, .int .i64 0] 31)) :=
    (hb1.alloc hsz _).alloc (by simp; omega) _
  rw [← hb]
  have hbw : w.heap.size ≤ b := by omega
  clear hb hsz
  generalize (w1.alloc (.cells #[.slice none 0 0, .int .i64 0] 31)).alloc (.cells #[.slice none 0 0, .int .i64 0] 31) = W0 at *
  have hYX : Y < 2 ^ M := by have := HY.out; omega
  refine (put_ok Y M hM1 hYX [] (by decide) b [] W0 hv0).mono ?_
  rintro e w2 ⟨rfl, F1, hV1, hK1, hS1⟩
  have hw1 : Wr w2 (b + 1) [] [] := hw0.keep hK1 (by simp) (by simp)
  obtain ⟨D, hD⟩ : ∃ D : Nat, (M : Int) - (K : Int) = D := ⟨M - K, by omega⟩
  have hMD : M = K + D := by omega
  have hK56 : K ≤ 56 := by omega
  have hD56 : D ≤ 56 := by omega
  obtain ⟨R, hR⟩ : ∃ R : Nat, R = 2 ^ D := ⟨_, rfl⟩
  have hR0 : 0 < R := by rw [hR]; exact Nat.two_pow_pos D
  have hRle : R ≤ 72057594037927936 := by rw [hR]; exact Nat.pow_le_pow_right (j := 56) (by decide) hD56
  have hRne := ne0_nat R hR0
  have hRW := w64_nat R hRle
  have hRW2 := k64_nat R hRle
  have hDW2 := k64_nat D (by omega)
  have hDmin : min D 64 = D := by omega
  have hR2 : (2 : Int) ^ D = (R : Int) := by rw [hR, Int.natCast_pow]; rfl
  obtain ⟨Y1, hY1⟩ : ∃ Y1 : Nat, Y1 = Y / R := ⟨_, rfl⟩
  obtain ⟨Y2, hY2⟩ : ∃ Y2 : Nat, Y2 = Y % R := ⟨_, rfl⟩
  have hI1 : (Y : Int) / (R : Int) = (Y1 : Int) := by rw [hY1, Int.natCast_ediv]
  have hI2 : (Y : Int) % (R : Int) = (Y2 : Int) := by rw [hY2, Int.natCast_emod]
  have hlt1 : Y1 < 2 ^ K := by
    rw [hY1, hR]
    apply Nat.div_lt_of_lt_mul
    rw [← Nat.pow_add, Nat.add_comm D K, ← hMD]; exact hYX
  have hlt2 : Y2 < 2 ^ D := by rw [hY2, ← hR]; exact Nat.mod_lt _ hR0
  have HYY := Lib.hid (And.intro hY1 (And.intro hY2 (And.intro hR hMD)))
  have HL1 := Lib.hid hlt1
  have HL2 := Lib.hid hlt2
  clear hY1 hY2 hR hRle hMD hlt1 hlt2 hYX
  have HLN := Lib.hid (show ([] ++ Bits.bitsN Y1 K).length ≤ 99000 by simp [Bits.bitsN_length]; omega)
  have hw1d : Wr w2.drew (b + 1) [] [] := hw1.keep (Keep.drew _ []) (by simp) (by simp)
  go_wp2
  go_region_with (first | (go_at_call 18; (with_reducible refine (put_ok Y1 K hK56 HL1.out [] (by decide) (b + 1) _ _ (by assumption)).mono ?_); rintro e w3 ⟨rfl, F2, hW2, hK2, hS2⟩) | (go_at_call 18; (with_reducible refine (put_ok Y2 D hD56 HL2.out ([] ++ Bits.bitsN Y1 K) HLN.out (b + 1) _ _ (by assumption)).mono ?_); rintro e w4 ⟨rfl, F3, hW3, hK3, hS3⟩))
  all_goals
    obtain ⟨hY1, hY2, hR, hMD⟩ := HYY.out
    have hbase : W0.heap.size ≤ w2.heap.size := hK1.size
    have hb1lt := hw0.lt
    have hV2 : Wr w2.drew b F1 ([] ++ Bits.bitsN Y M) := hV1.keep (Keep.drew _ []) (by simp) (by simp)
    have hV3 : Wr w3 b F1 ([] ++ Bits.bitsN Y M) := hV2.keep hK2 (by simp) (fun j hj => by
      rcases hS1 j hj with h | h
      · simp at h
      · simp; omega)
    have hF1 := hV1.foot_lt
    have hV4 : Wr w4 b F1 ([] ++ Bits.bitsN Y M) := hV3.keep hK3 (by
        intro hm
        rcases List.mem_cons.1 hm with h | h
        · omega
        · rcases hS2 b h with h | h
          · simp at h
          · have : w2.drew.heap.size = w2.heap.size := rfl
            omega) (fun j hj hm => by
      have hjl := hF1 j hj
      rcases List.mem_cons.1 hm with h | h
      · rcases hS1 j hj with h' | h'
        · simp at h'
        · omega
      · rcases hS2 j h with h' | h'
        · simp at h'
        · have : w2.drew.heap.size = w2.heap.size := rfl
          omega)
    rw [List.append_assoc, hY1, hY2, hR, ← Bits.bitsN_split, ← hMD] at hW3
    have hB1 : Below w.heap.size w w2 := hK1.below hB0 (by simpa using hbw)
    have hB2 : Below w.heap.size w w3 := hK2.below hB1.drew (by intro j hj; simp at hj; omega)
    have hB3 : Below w.heap.size w w4 := hK3.below hB2 (by
      intro j hj
      rcases List.mem_cons.1 hj with h | h
      · omega
      · rcases hS2 j h with h | h
        · simp at h
        · have : w2.drew.heap.size = w2.heap.size := rfl
          omega)
    clear hS1 hS2 hS3 hK1 hK2 hK3 hV1 hV2 hV3 hF1 hY1 hY2 hR hMD
    go_wp2_with (first | (go_at_call 19; (with_reducible refine (bytes_is _ _ _ _ hV4).mono ?_); rintro e w' ⟨rfl, rfl⟩) | (go_at_call 19; (with_reducible refine (bytes_is _ _ _ _ hW3).mono ?_); rintro e w' ⟨rfl, rfl⟩) | (go_at_call 20; (with_reducible refine (bits_is _ _ _ _ hV4).mono ?_); rintro e w' ⟨rfl, rfl⟩) | (go_at_call 20; (with_reducible refine (bits_is _ _ _ _ hW3).mono ?_); rintro e w' ⟨rfl, rfl⟩))
    go_ret
    exact ⟨rfl, hB3⟩
end Go.Proofs.Ythhfogpkaeminaa
