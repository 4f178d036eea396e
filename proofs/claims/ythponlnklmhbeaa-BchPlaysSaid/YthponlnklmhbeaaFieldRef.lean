/- The document's field: what its functions answer. -/
import Derived.Test.YthponlnklmhbeaaFieldWalk
set_option linter.unusedVariables false
set_option linter.unusedSimpArgs false
namespace Go.Proofs.Ythponlnklmhbeaa
open Go.RowKit Go.Sort F7
theorem refRest_is (n : Int) (w : World) : Calls Try.prog 25 #[.int .i64 n] w fun e w' => e = .returned (.int .i64 (r7 n)) ∧ w' = w := by
  obtain ⟨T, hT⟩ : ∃ T, T = Int.tmod n 128 := ⟨_, rfl⟩
  have h2 : -128 < T ∧ T < 128 ∧ (T < 0 → T + 128 = n % 128) ∧ (0 ≤ T → T = n % 128) := by
    rw [hT, Int.tmod_eq_emod]
    split <;> omega
  obtain ⟨h3, h4, h5, h6⟩ := h2
  have h7 : (r7 n : Int) = n % 128 := by unfold r7; omega
  rw [← h7] at h5 h6
  have hd : n.tmod 128 = T := hT.symm
  clear h7 hT
  obtain ⟨X, hX⟩ : ∃ X, X = r7 n := ⟨_, rfl⟩
  rw [← hX] at h5 h6
  rw [← hX]
  clear hX
  by_cases hn : T < 0
  · have e := h5 hn
    clear h5 h6
    go_enter Try.func25, Try.ntmps25
    go_wp2
    go_ret
    exact ⟨by first | rfl | (rw [e]; rfl), rfl⟩
  · have e := h6 (by omega)
    have HE := Lib.hid e
    clear h5 h6 e
    go_enter Try.func25, Try.ntmps25
    go_wp2
    go_ret
    exact ⟨by first | rfl | (rw [HE.out]; rfl), rfl⟩
theorem rm_zero (a out : Nat) : rm a 0 out = out := by rw [rm, if_pos rfl]
theorem rm_step (a b out : Nat) (h : b ≠ 0) : rm a b out = rm (dbl a) (b / 2) (if b % 2 = 1 then out ^^^ a else out) := by rw [rm, if_neg h]
set_option maxRecDepth 100000 in
theorem refMul_is (n m : Int) (w : World) : Calls Try.prog 23 #[.int .i64 n, .int .i64 m] w fun e w' => e = .returned (.int .i64 (mul (r7 n) (r7 m))) ∧ w' = w := by
  have hr1 := refRest_is n w
  have hr2 := refRest_is m w
  have hx := r7_lt n
  have hy := r7_lt m
  obtain ⟨x, hxe⟩ : ∃ x, x = r7 n := ⟨_, rfl⟩
  obtain ⟨y, hye⟩ : ∃ y, y = r7 m := ⟨_, rfl⟩
  rw [← hxe] at hr1 hx
  rw [← hye] at hr2 hy
  rw [← hxe, ← hye]
  clear hxe hye
  have hrm := rm_is y x 0 hx hy
  rw [Nat.zero_xor] at hrm
  obtain ⟨R, hR⟩ : ∃ R, R = mul x y := ⟨_, rfl⟩
  rw [← hR] at hrm
  rw [← hR]
  have HR := Lib.hid hrm
  clear hR hrm
  go_enter Try.func23, Try.ntmps23
  go_wp2_with (first | (go_at_call 25; (with_reducible refine hr1.mono ?_); rintro e w1 ⟨rfl, hw1⟩; have hw1 := hw1.symm; subst hw1) | (go_at_call 25; (with_reducible refine hr2.mono ?_); rintro e w2 ⟨rfl, hw2⟩; have hw2 := hw2.symm; subst hw2))
  clear hr1 hr2
  go_loopw [0, 1, 5] (fun a b o wr => ∃ x y z : Nat, x < 128 ∧ y < 128 ∧ z < 128 ∧ a = .int .i64 x ∧ b = .int .i64 y ∧ o = .int .i64 z ∧ Hid (rm x y z = R) ∧ wr = w) (fun _ b _ _ => (intOf b).toNat)
  case atStart => exact ⟨x, y, 0, hx, hy, by omega, rfl, rfl, rfl, HR, rfl⟩
  case round =>
    clear HR hx hy
    obtain ⟨a, b, z, ha, hb, hz, rfl, rfl, rfl, HR, rfl⟩ := hrel
    by_cases h0 : 0 < b
    · have hst := rm_step a b z (by omega)
      obtain ⟨q, hq⟩ : ∃ q : Nat, q = b / 2 := ⟨_, rfl⟩
      have hq1 : (b : Int) / 2 = q := by omega
      obtain ⟨D, hD⟩ : ∃ D, D = dbl a := ⟨_, rfl⟩
      have hDl : D < 128 := by rw [hD]; exact dbl_lt a ha
      have hxo := xor_i64 z a (by omega) (by omega)
      have hxl := xor_lt z a hz ha
      rw [← hq, ← hD] at hst
      have hql : q < b := by omega
      obtain ⟨Z, hZ⟩ : ∃ Z, Z = z ^^^ a := ⟨_, rfl⟩
      rw [← hZ] at hst hxo hxl
      by_cases hp : b % 2 = 1
      · have hp1 : (b : Int) % 2 = 1 := by omega
        rw [if_pos hp] at hst
        have HST := Lib.hid hst
        by_cases hd : 128 ≤ 2 * a
        · have hda : bits .xor .i64 (2 * (a : Int)) 137 = (D : Int) := by
            rw [hD]; unfold dbl; rw [if_pos hd, ← xor_i64 (2 * a) 137 (by omega) (by decide)]; congr 1
          clear hst hq hD hp hZ
          go_wp2
          go_roundw
          case rel => exact ⟨D, q, Z, hDl, by omega, hxl, rfl, rfl, rfl, by rw [← HST.out]; exact HR, by trivial⟩
          case measure => simp [intOf]; omega
        · have hda : 2 * (a : Int) = (D : Int) := by
            rw [hD]; unfold dbl; rw [if_neg hd]; omega
          have HDA := Lib.hid hda
          clear hst hq hD hp hZ hda
          go_wp2
          go_roundw
          case rel => exact ⟨D, q, Z, hDl, by omega, hxl, by rw [HDA.out], rfl, rfl, by rw [← HST.out]; exact HR, by trivial⟩
          case measure => simp [intOf]; omega
      · have hp1 : (b : Int) % 2 = 0 := by omega
        rw [if_neg hp] at hst
        have HST := Lib.hid hst
        by_cases hd : 128 ≤ 2 * a
        · have hda : bits .xor .i64 (2 * (a : Int)) 137 = (D : Int) := by
            rw [hD]; unfold dbl; rw [if_pos hd, ← xor_i64 (2 * a) 137 (by omega) (by decide)]; congr 1
          clear hst hq hD hp hZ
          go_wp2
          go_roundw
          case rel => exact ⟨D, q, z, hDl, by omega, hz, rfl, rfl, rfl, by rw [← HST.out]; exact HR, by trivial⟩
          case measure => simp [intOf]; omega
        · have hda : 2 * (a : Int) = (D : Int) := by
            rw [hD]; unfold dbl; rw [if_neg hd]; omega
          have HDA := Lib.hid hda
          clear hst hq hD hp hZ hda
          go_wp2
          go_roundw
          case rel => exact ⟨D, q, z, hDl, by omega, hz, by rw [HDA.out], rfl, rfl, by rw [← HST.out]; exact HR, by trivial⟩
          case measure => simp [intOf]; omega
    · obtain rfl : b = 0 := by omega
      have hz' := HR.out
      rw [rm_zero] at hz'
      subst hz'
      clear HR
      go_wp2
      go_ret
      exact ⟨rfl, rfl⟩
theorem r7_natR {x : Nat} (h : x < 128) : r7 (x : Int) = x := by unfold r7; omega
set_option maxRecDepth 100000 in
theorem refPow_is (n : Int) (k : Nat) (hk : k ≤ 1000000) (w : World) : Calls Try.prog 26 #[.int .i64 n, .int .i64 k] w fun e w' => e = .returned (.int .i64 (pow (r7 n) k)) ∧ w' = w := by
  have hx := r7_lt n
  have hmul : ∀ p w, p < 128 → Calls Try.prog 23 #[.int .i64 (p : Nat), .int .i64 n] w fun e w' => e = .returned (.int .i64 (mul p (r7 n))) ∧ w' = w := fun p w hp => by
    have := refMul_is p n w
    rw [r7_natR hp] at this
    exact this
  obtain ⟨x, hxe⟩ : ∃ x, x = r7 n := ⟨_, rfl⟩
  rw [← hxe] at hmul hx
  rw [← hxe]
  clear hxe
  go_enter Try.func26, Try.ntmps26
  go_wp2
  go_loopw [5, 6] (fun o i wr => ∃ j : Nat, j ≤ k ∧ i = .int .i64 j ∧ o = .int .i64 (pow x j) ∧ wr = w) (fun _ i _ => k - (intOf i).toNat)
  case atStart => exact ⟨0, Nat.zero_le _, rfl, by rw [pow_zero]; rfl, rfl⟩
  case round =>
    obtain ⟨j, hj, rfl, rfl, rfl⟩ := hrel
    by_cases hlt : j < k
    · have hm := hmul (pow x j) wr (pow_lt x j)
      rw [← pow_succ x j hx] at hm
      clear hmul
      go_wp2_with (first | (go_at_call 23; (with_reducible refine hm.mono ?_); rintro e w1 ⟨rfl, hw1⟩; have hw1 := hw1.symm; subst hw1))
      go_roundw
      case rel => exact ⟨j + 1, by omega, by go_num, rfl, by trivial⟩
      case measure => simp [intOf]; omega
    · obtain rfl : j = k := by omega
      clear hmul
      go_wp2
      go_ret
      exact ⟨rfl, rfl⟩
theorem mul_cancel (x b : Nat) (hx : x < 128) (hb : b < 128) (h : mul x b = 1) : b = inv x := by
  have h0 : x ≠ 0 := fun e => by subst e; rw [zero_mul] at h; omega
  have h1 : mul (inv x) (mul x b) = b := by
    rw [mul_assoc _ _ _ (inv_lt x) hx hb, mul_comm (inv x) x, mul_inv x hx h0, one_mul b hb]
  rw [h, mul_one _ (inv_lt x)] at h1
  exact h1.symm
set_option maxRecDepth 100000 in
theorem refInv_is (x : Nat) (hx : x < 128) (w : World) : Calls Try.prog 24 #[.int .i64 x] w fun e w' => e = .returned (.int .i64 (inv x)) ∧ w' = w := by
  have hmul : ∀ p w, p < 128 → Calls Try.prog 23 #[.int .i64 x, .int .i64 (p : Nat)] w fun e w' => e = .returned (.int .i64 (mul x p)) ∧ w' = w := fun p w hp => by
    have := refMul_is x p w
    rw [r7_natR hp, r7_natR hx] at this
    exact this
  go_enter Try.func24, Try.ntmps24
  go_wp2
  go_loopw [3] (fun i wr => ∃ j : Nat, 1 ≤ j ∧ j ≤ 128 ∧ i = .int .i64 j ∧ Hid (∀ c, 1 ≤ c → c < j → mul x c ≠ 1) ∧ wr = w) (fun i _ => 128 - (intOf i).toNat)
  case atStart => exact ⟨1, by omega, by omega, rfl, Lib.hid (fun c h1 h2 => by omega), rfl⟩
  case round =>
    obtain ⟨j, hj1, hj, rfl, hc, rfl⟩ := hrel
    by_cases hlt : j < 128
    · have hm := hmul j wr hlt
      clear hmul
      obtain ⟨M, hM⟩ : ∃ M, M = mul x j := ⟨_, rfl⟩
      rw [← hM] at hm
      by_cases h1 : M = 1
      · have hi := mul_cancel x j hx hlt (by rw [← hM]; exact h1)
        have HI := Lib.hid hi
        have h1' : ((M : Int) == 1) = true := by simp [h1]
        clear hi hM h1
        go_wp2_with (first | (go_at_call 23; (with_reducible refine hm.mono ?_); rintro e w1 ⟨rfl, hw1⟩; have hw1 := hw1.symm; subst hw1))
        go_ret
        refine ⟨?_, rfl⟩
        rw [← HI.out]
        rfl
      · have h1' : ((M : Int) == 1) = false := by simp; omega
        have HM := Lib.hid hM
        have H1 := Lib.hid h1
        clear hM h1
        go_wp2_with (first | (go_at_call 23; (with_reducible refine hm.mono ?_); rintro e w1 ⟨rfl, hw1⟩; have hw1 := hw1.symm; subst hw1))
        go_roundw
        case rel =>
          refine ⟨j + 1, by omega, by omega, by go_num, Lib.hid ?_, by trivial⟩
          intro c h1 h2
          by_cases e : c = j
          · subst e; rw [← HM.out]; exact H1.out
          · exact hc.out c h1 (by omega)
        case measure => simp [intOf]; omega
    · obtain rfl : j = 128 := by omega
      have h0 : x = 0 := by
        by_cases h0 : x = 0
        · exact h0
        · exfalso
          have h2 := mul_inv x hx h0
          have h3 : inv x ≠ 0 := fun e => by rw [e, mul_zero] at h2; omega
          exact hc.out (inv x) (by omega) (by have := inv_lt x; omega) h2
      have hi : inv x = 0 := by simp [inv, h0]
      have HI := Lib.hid hi.symm
      clear hi h0 hmul hc
      go_wp2
      go_ret
      refine ⟨?_, rfl⟩
      rw [← HI.out]
      rfl
set_option maxRecDepth 100000 in
theorem refLog_is (n : Int) (w : World) : Calls Try.prog 27 #[.int .i64 n] w fun e w' => e = .returned (.int .i64 (lgI (r7 n))) ∧ w' = w := by
  have hx := r7_lt n
  have hr : ∀ w, Calls Try.prog 25 #[.int .i64 n] w fun e w' => e = .returned (.int .i64 (r7 n)) ∧ w' = w := fun w => refRest_is n w
  have hpow : ∀ (j : Nat) w, j ≤ 127 → Calls Try.prog 26 #[.int .i64 2, .int .i64 j] w fun e w' => e = .returned (.int .i64 (ex j)) ∧ w' = w := fun j w hj => by
    have := refPow_is 2 j (by omega) w
    rw [show r7 2 = 2 by decide, pow_two] at this
    exact this
  obtain ⟨x, hxe⟩ : ∃ x, x = r7 n := ⟨_, rfl⟩
  rw [← hxe] at hr hx
  rw [← hxe]
  clear hxe
  go_enter Try.func27, Try.ntmps27
  go_wp2
  go_loopw [3] (fun i wr => ∃ j : Nat, j ≤ 127 ∧ i = .int .i64 j ∧ Hid (∀ c, c < j → ex c ≠ x) ∧ wr = w) (fun i _ => 127 - (intOf i).toNat)
  case atStart => exact ⟨0, by omega, rfl, Lib.hid (fun c h1 => by omega), rfl⟩
  case round =>
    obtain ⟨j, hj, rfl, hc, rfl⟩ := hrel
    by_cases hlt : j < 127
    · have hm := hpow j wr hj
      have hr := hr wr
      clear hpow
      obtain ⟨M, hM⟩ : ∃ M, M = ex j := ⟨_, rfl⟩
      rw [← hM] at hm
      by_cases h1 : M = x
      · have hi : lgI x = j := by
          rw [← h1, hM]; unfold lgI; rw [if_neg (by have := ex_pos j; omega), lg_ex, Nat.mod_eq_of_lt hlt]
        have HI := Lib.hid hi.symm
        have h1' : ((M : Int) == x) = true := by simp [h1]
        clear hi hM h1
        go_wp2_with (first | (go_at_call 26; (with_reducible refine hm.mono ?_); rintro e w1 ⟨rfl, hw1⟩; have hw1 := hw1.symm; subst hw1) | (go_at_call 25; (with_reducible refine hr.mono ?_); rintro e w1 ⟨rfl, hw1⟩; have hw1 := hw1.symm; subst hw1))
        go_ret
        refine ⟨?_, rfl⟩
        rw [← HI.out]
        rfl
      · have h1' : ((M : Int) == x) = false := by simp; omega
        have HM := Lib.hid hM
        have H1 := Lib.hid h1
        clear hM h1
        go_wp2_with (first | (go_at_call 26; (with_reducible refine hm.mono ?_); rintro e w1 ⟨rfl, hw1⟩; have hw1 := hw1.symm; subst hw1) | (go_at_call 25; (with_reducible refine hr.mono ?_); rintro e w1 ⟨rfl, hw1⟩; have hw1 := hw1.symm; subst hw1))
        go_roundw
        case rel =>
          refine ⟨j + 1, by omega, by go_num, Lib.hid ?_, by trivial⟩
          intro c h2
          by_cases e : c = j
          · subst e; rw [← HM.out]; exact H1.out
          · exact hc.out c (by omega)
        case measure => simp [intOf]; omega
    · obtain rfl : j = 127 := by omega
      have h0 : x = 0 := by
        by_cases h0 : x = 0
        · exact h0
        · exact (hc.out (lg x) (lg_lt x hx h0) (ex_lg x hx h0)).elim
      have hi : lgI x = -1 := by simp [lgI, h0]
      have HI := Lib.hid hi.symm
      clear hi h0 hpow hr hc
      go_wp2
      go_ret
      refine ⟨?_, rfl⟩
      rw [← HI.out]
      rfl
end Go.Proofs.Ythponlnklmhbeaa
