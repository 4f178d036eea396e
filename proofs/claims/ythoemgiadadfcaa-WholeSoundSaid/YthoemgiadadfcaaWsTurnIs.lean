/- Two numbers turned by any angle, and back: the walks of lift.may, rest, Turn, Back. -/
import Derived.Test.YthoemgiadadfcaaWsSmall
set_option linter.unusedVariables false
set_option linter.unusedSimpArgs false
namespace Go.Proofs.Ythoemgiadadfcaa
open Go.RowKit Go.Sort Ws
theorem may_yes (a b : Int) (h : may a b) (w : World) : Calls Try.prog 38 #[.int .i64 a, .int .i64 b] w fun e w' => e = .returned (.bool true) ∧ w' = w := by
  obtain ⟨h1, h2, h3, h4⟩ := h
  have e1 : decide (-1099511627776 ≤ a) = true := decide_eq_true h1
  have e2 : decide (a ≤ 1099511627776) = true := decide_eq_true h2
  have e3 : decide (-1099511627776 ≤ b) = true := decide_eq_true h3
  have e4 : decide (b ≤ 1099511627776) = true := decide_eq_true h4
  go_enter Try.func38, Try.ntmps38
  go_wp2
  go_ret
  exact ⟨rfl, rfl⟩
theorem may_no (a b : Int) (h : ¬ may a b) (w : World) : Calls Try.prog 38 #[.int .i64 a, .int .i64 b] w fun e w' => e = .returned (.bool false) ∧ w' = w := by
  unfold may at h
  by_cases h1 : -1099511627776 ≤ a
  · by_cases h2 : a ≤ 1099511627776
    · by_cases h3 : -1099511627776 ≤ b
      · have e4 : decide (b ≤ 1099511627776) = false := decide_eq_false (by omega)
        have e3 : decide (-1099511627776 ≤ b) = true := decide_eq_true h3
        have e2 : decide (a ≤ 1099511627776) = true := decide_eq_true h2
        have e1 : decide (-1099511627776 ≤ a) = true := decide_eq_true h1
        clear h
        go_enter Try.func38, Try.ntmps38
        go_wp2
        go_ret
        exact ⟨rfl, rfl⟩
      · have e3 : decide (-1099511627776 ≤ b) = false := decide_eq_false h3
        have e2 : decide (a ≤ 1099511627776) = true := decide_eq_true h2
        have e1 : decide (-1099511627776 ≤ a) = true := decide_eq_true h1
        clear h
        go_enter Try.func38, Try.ntmps38
        go_wp2
        go_ret
        exact ⟨rfl, rfl⟩
    · have e2 : decide (a ≤ 1099511627776) = false := decide_eq_false h2
      have e1 : decide (-1099511627776 ≤ a) = true := decide_eq_true h1
      clear h
      go_enter Try.func38, Try.ntmps38
      go_wp2
      go_ret
      exact ⟨rfl, rfl⟩
  · have e1 : decide (-1099511627776 ≤ a) = false := decide_eq_false h1
    clear h
    go_enter Try.func38, Try.ntmps38
    go_wp2
    go_ret
    exact ⟨rfl, rfl⟩
theorem rest_is (n : Int) (w : World) : Calls Try.prog 39 #[.int .i64 n] w fun e w' => e = .returned (.int .i64 (kr n : Nat)) ∧ w' = w := by
  obtain ⟨T, hT⟩ : ∃ T, T = Int.tmod n 512 := ⟨_, rfl⟩
  have h2 : -512 < T ∧ T < 512 ∧ (T + 512) % 512 = n % 512 := by
    rw [hT, Int.tmod_eq_emod]
    split <;> omega
  obtain ⟨h3, h4, h5⟩ := h2
  have h7 : (kr n : Int) = n % 512 := by unfold kr; omega
  rw [← h7] at h5
  have hd : n.tmod 512 = T := hT.symm
  have hp : 0 ≤ T + 512 := by omega
  clear h7 hT
  obtain ⟨X, hX⟩ : ∃ X, X = kr n := ⟨_, rfl⟩
  rw [← hX] at h5
  rw [← hX]
  have hd2 : (T + 512).tmod 512 = (X : Int) := by rw [Int.tmod_eq_emod_of_nonneg hp]; exact h5
  clear hX
  go_enter Try.func39, Try.ntmps39
  go_wp2
  go_ret
  exact ⟨by first | rfl | (rw [h5]; rfl) | (rw [h5]), rfl⟩
theorem unspin_succ : ∀ n a b, unspin (n + 1) a b = ((unspin n a b).2, -(unspin n a b).1)
  | 0, a, b => rfl
  | n + 1, a, b => unspin_succ n b (-a)
theorem unspin_le {N : Int} : ∀ n a b, -N ≤ a ∧ a ≤ N → -N ≤ b ∧ b ≤ N → (-N ≤ (unspin n a b).1 ∧ (unspin n a b).1 ≤ N) ∧ (-N ≤ (unspin n a b).2 ∧ (unspin n a b).2 ≤ N)
  | 0, a, b, h, h' => ⟨h, h'⟩
  | n + 1, a, b, h, h' => unspin_le n b (-a) h' (by omega)
set_option maxRecDepth 100000 in
set_option maxHeartbeats 1600000 in
theorem turn_is (a b k : Int) (w : World) : Calls Try.prog 27 #[.int .i64 a, .int .i64 b, .int .i64 k] w fun e w' => e = .returned (.tuple #[.int .i64 (tn a b k).1, .int .i64 (tn a b k).2]) ∧ Below w.heap.size w w' := by
  by_cases hm : may a b
  · have q1 := fun w => (may_yes a b hm w).mono (fun e w' h => (⟨h.1, h.2.symm⟩ : _ ∧ w = w'))
    have q2 := fun w => (rest_is k w).mono (fun e w' h => (⟨h.1, h.2.symm⟩ : _ ∧ w = w'))
    have hkl : kr k < 512 := by unfold kr; omega
    obtain ⟨m1, m2, m3, m4⟩ := id hm
    unfold tn
    rw [if_pos hm]
    generalize kr k = K at *
    obtain ⟨q, hq⟩ : ∃ q, q = K / 128 := ⟨_, rfl⟩
    obtain ⟨r, hr⟩ : ∃ r, r = K % 128 := ⟨_, rfl⟩
    have e1 : (K : Int) / 128 = (q : Int) := by omega
    have e2 : (K : Int) % 128 = (r : Int) := by omega
    have e3 : Int.tdiv (K : Int) 128 = (q : Int) := by rw [Int.tdiv_eq_ediv_of_nonneg (by omega)]; exact e1
    have e4 : Int.tmod (K : Int) 128 = (r : Int) := by rw [Int.tmod_eq_emod_of_nonneg (by omega)]; exact e2
    have hql : q < 4 := by omega
    have hrl : r < 128 := by omega
    rw [← hq, ← hr]
    clear hq hr hm
    by_cases hc : r ≤ 64
    · rw [if_pos hc]
      have q3 := small_fwd a b r (by omega) (by omega) (by omega) w
      have hle := fwd_le (show r < 65 by omega) (M := 1099511627776) (by omega) (by omega) ⟨m1, m2⟩ ⟨m3, m4⟩
      generalize (fwd (fp r) (fq r) a b).1 = x at *
      generalize (fwd (fp r) (fq r) a b).2 = y at *
      have HLE := Lib.hid hle
      clear hle m1 m2 m3 m4
      obtain ⟨S, hS⟩ : ∃ S, S = spin q x y := ⟨_, rfl⟩
      rw [← hS]
      have HS := Lib.hid hS
      clear hS
      go_enter Try.func27, Try.ntmps27
      go_wp2_with (first | (go_at_call 38; (with_reducible refine (q1 _).mono ?_); rintro e w8 ⟨rfl, h8⟩; subst h8) | (go_at_call 39; (with_reducible refine (q2 _).mono ?_); rintro e w8 ⟨rfl, h8⟩; subst h8) | (go_at_call 40; (with_reducible refine q3.mono ?_); rintro e w9 ⟨rfl, hb9⟩; have HB9 := Lib.hid hb9; clear hb9 q3))
      go_loopw [0, 1, 42] (fun u v i wr => ∃ n : Nat, n ≤ q ∧ u = .int .i64 (spin n x y).1 ∧ v = .int .i64 (spin n x y).2 ∧ i = .int .i64 n ∧ Hid (Below w.heap.size w wr)) (fun u v i _ => q - (intOf i).toNat)
      case atStart => exact ⟨0, by omega, rfl, rfl, rfl, HB9⟩
      case round =>
        clear HB9
        obtain ⟨n, hn, rfl, rfl, rfl, hA⟩ := hrel
        by_cases hlt : n < q
        · have hsl := spin_le (N := 1649267441666) n x y (by have := HLE.out; omega) (by have := HLE.out; omega)
          have hss := Lib.hid (spin_succ n x y)
          generalize (spin n x y).1 = u at *
          generalize (spin n x y).2 = v at *
          obtain ⟨⟨s1, s2⟩, s3, s4⟩ := hsl
          go_wp2
          go_roundw
          case rel => exact ⟨n + 1, by omega, by rw [hss.out], by rw [hss.out], by go_num, hA⟩
          case measure => simp [intOf]; omega
        · obtain rfl : q = n := by omega
          rw [← HS.out]
          go_wp2
          go_ret2
          exact ⟨rfl, hA.out⟩
    · rw [if_neg hc]
      obtain ⟨R, hR⟩ : ∃ R, R = 128 - r := ⟨_, rfl⟩
      rw [← hR]
      have q3 := small_bwd a b R (by omega) (by omega) (by omega) w
      have hle := bwd_le (show R < 65 by omega) (M := 1099511627776) (by omega) (by omega) ⟨m1, m2⟩ ⟨m3, m4⟩
      have e5 : 128 - (r : Int) = (R : Int) := by omega
      generalize (bwd (fp R) (fq R) a b).1 = x at *
      generalize (bwd (fp R) (fq R) a b).2 = y at *
      clear hR
      obtain ⟨Q, hQ⟩ : ∃ Q, Q = q + 1 := ⟨_, rfl⟩
      have e6 : (q : Int) + 1 = (Q : Int) := by omega
      rw [← hQ]
      have hQl : Q < 5 := by omega
      clear hQ
      have HLE := Lib.hid hle
      clear hle m1 m2 m3 m4
      obtain ⟨S, hS⟩ : ∃ S, S = spin Q x y := ⟨_, rfl⟩
      rw [← hS]
      have HS := Lib.hid hS
      clear hS
      go_enter Try.func27, Try.ntmps27
      go_wp2_with (first | (go_at_call 38; (with_reducible refine (q1 _).mono ?_); rintro e w8 ⟨rfl, h8⟩; subst h8) | (go_at_call 39; (with_reducible refine (q2 _).mono ?_); rintro e w8 ⟨rfl, h8⟩; subst h8) | (go_at_call 40; (with_reducible refine q3.mono ?_); rintro e w9 ⟨rfl, hb9⟩; have HB9 := Lib.hid hb9; clear hb9 q3))
      go_loopw [0, 1, 42] (fun u v i wr => ∃ n : Nat, n ≤ Q ∧ u = .int .i64 (spin n x y).1 ∧ v = .int .i64 (spin n x y).2 ∧ i = .int .i64 n ∧ Hid (Below w.heap.size w wr)) (fun u v i _ => Q - (intOf i).toNat)
      case atStart => exact ⟨0, by omega, rfl, rfl, rfl, HB9⟩
      case round =>
        clear HB9
        obtain ⟨n, hn, rfl, rfl, rfl, hA⟩ := hrel
        by_cases hlt : n < Q
        · have hsl := spin_le (N := 1649267441666) n x y (by have := HLE.out; omega) (by have := HLE.out; omega)
          have hss := Lib.hid (spin_succ n x y)
          generalize (spin n x y).1 = u at *
          generalize (spin n x y).2 = v at *
          obtain ⟨⟨s1, s2⟩, s3, s4⟩ := hsl
          go_wp2
          go_roundw
          case rel => exact ⟨n + 1, by omega, by rw [hss.out], by rw [hss.out], by go_num, hA⟩
          case measure => simp [intOf]; omega
        · obtain rfl : Q = n := by omega
          rw [← HS.out]
          go_wp2
          go_ret2
          exact ⟨rfl, hA.out⟩
  · have q1 := fun w => (may_no a b hm w).mono (fun e w' h => (⟨h.1, h.2.symm⟩ : _ ∧ w = w'))
    unfold tn
    rw [if_neg hm]
    clear hm
    go_enter Try.func27, Try.ntmps27
    go_wp2_with (go_at_call 38; (with_reducible refine (q1 _).mono ?_); rintro e w8 ⟨rfl, h8⟩; subst h8)
    go_ret2
    exact ⟨rfl, Below.refl _ _⟩
set_option maxRecDepth 100000 in
set_option maxHeartbeats 1600000 in
theorem back_is (a b k : Int) (w : World) : Calls Try.prog 36 #[.int .i64 a, .int .i64 b, .int .i64 k] w fun e w' => e = .returned (.tuple #[.int .i64 (bk a b k).1, .int .i64 (bk a b k).2]) ∧ Below w.heap.size w w' := by
  by_cases hm : may a b
  · have q1 := fun w => (may_yes a b hm w).mono (fun e w' h => (⟨h.1, h.2.symm⟩ : _ ∧ w = w'))
    have q2 := fun w => (rest_is k w).mono (fun e w' h => (⟨h.1, h.2.symm⟩ : _ ∧ w = w'))
    have hkl : kr k < 512 := by unfold kr; omega
    obtain ⟨m1, m2, m3, m4⟩ := id hm
    unfold bk
    rw [if_pos hm]
    generalize kr k = K at *
    obtain ⟨q, hq⟩ : ∃ q, q = K / 128 := ⟨_, rfl⟩
    obtain ⟨r, hr⟩ : ∃ r, r = K % 128 := ⟨_, rfl⟩
    have e1 : (K : Int) / 128 = (q : Int) := by omega
    have e2 : (K : Int) % 128 = (r : Int) := by omega
    have e3 : Int.tdiv (K : Int) 128 = (q : Int) := by rw [Int.tdiv_eq_ediv_of_nonneg (by omega)]; exact e1
    have e4 : Int.tmod (K : Int) 128 = (r : Int) := by rw [Int.tmod_eq_emod_of_nonneg (by omega)]; exact e2
    have hql : q < 4 := by omega
    have hrl : r < 128 := by omega
    rw [← hq, ← hr]
    clear hq hr hm
    by_cases hc : r ≤ 64
    · rw [if_pos hc]
      have hu := unspin_le (N := 1099511627776) q a b (by omega) (by omega)
      have q3 := fun w => small_bwd (unspin q a b).1 (unspin q a b).2 r (by omega) (by omega) (by omega) w
      have d1 : decide ((64 : Int) < (r : Int)) = false := decide_eq_false (by omega)
      have d2 : decide ((r : Int) ≤ 64) = true := decide_eq_true (by omega)
      obtain ⟨z, hz⟩ : ∃ z, z = bwd (fp r) (fq r) (unspin q a b).1 (unspin q a b).2 := ⟨_, rfl⟩
      rw [← hz] at q3
      rw [← hz]
      clear hz
      obtain ⟨z1, z2⟩ := z
      dsimp only at q3 ⊢
      have HQ3 := Lib.hid q3
      have HU := Lib.hid hu
      have hb0 : Hid (Below w.heap.size w w) := Below.refl _ _
      clear hu q3
      go_enter Try.func36, Try.ntmps36
      go_wp2_with (first | (go_at_call 38; (with_reducible refine (q1 _).mono ?_); rintro e w8 ⟨rfl, h8⟩; subst h8) | (go_at_call 39; (with_reducible refine (q2 _).mono ?_); rintro e w8 ⟨rfl, h8⟩; subst h8))
      go_loopw [0, 1, 27] (fun u v i wr => ∃ n : Nat, n ≤ q ∧ u = .int .i64 (unspin n a b).1 ∧ v = .int .i64 (unspin n a b).2 ∧ i = .int .i64 n ∧ Hid (Below w.heap.size w wr)) (fun u v i _ => q - (intOf i).toNat)
      case atStart => exact ⟨0, by omega, rfl, rfl, rfl, hb0⟩
      case round =>
        clear hb0
        obtain ⟨n, hn, rfl, rfl, rfl, hA⟩ := hrel
        by_cases hlt : n < q
        · have hsl := unspin_le (N := 1099511627776) n a b (by omega) (by omega)
          have hss := Lib.hid (unspin_succ n a b)
          generalize (unspin n a b).1 = u at *
          generalize (unspin n a b).2 = v at *
          obtain ⟨⟨s1, s2⟩, s3, s4⟩ := hsl
          go_wp2
          go_roundw
          case rel => exact ⟨n + 1, by omega, by rw [hss.out], by rw [hss.out], by go_num, hA⟩
          case measure => simp [intOf]; omega
        · obtain rfl : q = n := by omega
          have q4 := HQ3.out wr
          go_wp2_with (go_at_call 40; (with_reducible refine q4.mono ?_); rintro e w9 ⟨rfl, hb9⟩; have HB9 := Lib.hid hb9; clear hb9 q4)
          go_ret2
          exact ⟨rfl, hA.out.trans (HB9.out.mono hA.out.size)⟩
    · rw [if_neg hc]
      have hu := unspin_le (N := 1099511627776) (q + 1) a b (by omega) (by omega)
      obtain ⟨R, hR⟩ : ∃ R, R = 128 - r := ⟨_, rfl⟩
      rw [← hR]
      have e5 : 128 - (r : Int) = (R : Int) := by omega
      have d1 : decide ((64 : Int) < (r : Int)) = true := decide_eq_true (by omega)
      have d2 : decide ((r : Int) ≤ 64) = false := decide_eq_false (by omega)
      obtain ⟨Q, hQ⟩ : ∃ Q, Q = q + 1 := ⟨_, rfl⟩
      have e6 : (q : Int) + 1 = (Q : Int) := by omega
      rw [← hQ] at hu
      rw [← hQ]
      have hQl : Q < 5 := by omega
      have q3 := fun w => small_fwd (unspin Q a b).1 (unspin Q a b).2 R (by omega) (by omega) (by omega) w
      obtain ⟨z, hz⟩ : ∃ z, z = fwd (fp R) (fq R) (unspin Q a b).1 (unspin Q a b).2 := ⟨_, rfl⟩
      rw [← hz] at q3
      rw [← hz]
      clear hR hQ
      clear hz
      obtain ⟨z1, z2⟩ := z
      dsimp only at q3 ⊢
      have HQ3 := Lib.hid q3
      have HU := Lib.hid hu
      have hb0 : Hid (Below w.heap.size w w) := Below.refl _ _
      clear hu q3
      go_enter Try.func36, Try.ntmps36
      go_wp2_with (first | (go_at_call 38; (with_reducible refine (q1 _).mono ?_); rintro e w8 ⟨rfl, h8⟩; subst h8) | (go_at_call 39; (with_reducible refine (q2 _).mono ?_); rintro e w8 ⟨rfl, h8⟩; subst h8))
      go_loopw [0, 1, 27] (fun u v i wr => ∃ n : Nat, n ≤ Q ∧ u = .int .i64 (unspin n a b).1 ∧ v = .int .i64 (unspin n a b).2 ∧ i = .int .i64 n ∧ Hid (Below w.heap.size w wr)) (fun u v i _ => Q - (intOf i).toNat)
      case atStart => exact ⟨0, by omega, rfl, rfl, rfl, hb0⟩
      case round =>
        clear hb0
        obtain ⟨n, hn, rfl, rfl, rfl, hA⟩ := hrel
        by_cases hlt : n < Q
        · have hsl := unspin_le (N := 1099511627776) n a b (by omega) (by omega)
          have hss := Lib.hid (unspin_succ n a b)
          generalize (unspin n a b).1 = u at *
          generalize (unspin n a b).2 = v at *
          obtain ⟨⟨s1, s2⟩, s3, s4⟩ := hsl
          go_wp2
          go_roundw
          case rel => exact ⟨n + 1, by omega, by rw [hss.out], by rw [hss.out], by go_num, hA⟩
          case measure => simp [intOf]; omega
        · obtain rfl : Q = n := by omega
          have q4 := HQ3.out wr
          go_wp2_with (go_at_call 40; (with_reducible refine q4.mono ?_); rintro e w9 ⟨rfl, hb9⟩; have HB9 := Lib.hid hb9; clear hb9 q4)
          go_ret2
          exact ⟨rfl, hA.out.trans (HB9.out.mono hA.out.size)⟩
  · have q1 := fun w => (may_no a b hm w).mono (fun e w' h => (⟨h.1, h.2.symm⟩ : _ ∧ w = w'))
    unfold bk
    rw [if_neg hm]
    clear hm
    go_enter Try.func36, Try.ntmps36
    go_wp2_with (go_at_call 38; (with_reducible refine (q1 _).mono ?_); rintro e w8 ⟨rfl, h8⟩; subst h8)
    go_ret2
    exact ⟨rfl, Below.refl _ _⟩
end Go.Proofs.Ythoemgiadadfcaa
