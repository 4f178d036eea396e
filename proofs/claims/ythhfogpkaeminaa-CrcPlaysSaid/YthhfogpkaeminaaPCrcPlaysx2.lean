-- PRINTED BY print.sh 35421559b90ae4d0a3588c463048766b98c2df88dd9212a6774a882060cdf62d: not written by this session
import Derived.Test.YthhfogpkaeminaaPCrcPlaysx0
namespace Go.Proofs.Ythhfogpkaeminaa.PCrcPlays
open Go.RowKit Go.Proofs.YthhfogpkaeminaaW.PrintWords Go.Proofs.YthhfogpkaeminaaW.PrintLast Go.Proofs.YthhfogpkaeminaaW.PrintMore
attribute [local go_sem] max2_int min2_int max_two min_two max_three min_three max_four min_four   -- for this text's walks alone
set_option linter.unusedVariables false
set_option linter.unusedSimpArgs false

/-! ### belfryref15_Sum: function 26 -/
mutual
def belfryref15_Sum.j0 : Nat → Int → ByteArray → Option (Int)
  | 0, _, _ => none
  | k + 1, x0, x1 => belfryref15_Sum.l0 k x0 x1 ([] : List Int) 0
def belfryref15_Sum.l0 : Nat → Int → ByteArray → List Int → Int → Option (Int)
  | 0, _, _, _, _ => none
  | k + 1, x0, x1, x5, x6 => if x6 < (x1.size : Int) then (belfryref15_Sum.l1 k x0 x1 x5 x6 128) else (belfryref15_Sum.l2 k x0 x5 0)
def belfryref15_Sum.l1 : Nat → Int → ByteArray → List Int → Int → Int → Option (Int)
  | 0, _, _, _, _, _ => none
  | k + 1, x0, x1, x5, x6, x7 => if x7 ≥ 1 then (if 0 ≤ x6 then (if x6 < (x1.size : Int) then (if x7 = 0 then (none) else (if x5.length < 17592186044416 then (belfryref15_Sum.l1 k x0 x1 (x5 ++ [Int.tmod (wrap64 (Int.tdiv (wrap64 (bt x1 x6)) x7)) 2]) x6 (wrap64 (Int.tdiv x7 2))) else (none))) else (none)) else (none)) else (belfryref15_Sum.l0 k x0 x1 x5 (wrap64 (x6 + 1)))
def belfryref15_Sum.l2 : Nat → Int → List Int → Int → Option (Int)
  | 0, _, _, _ => none
  | k + 1, x0, x5, x8 => if x8 < 16 then (if x5.length < 17592186044416 then (belfryref15_Sum.l2 k x0 (x5 ++ [0]) (wrap64 (x8 + 1))) else (none)) else (belfryref15_Sum.l3 k x0 x5 0)
def belfryref15_Sum.l3 : Nat → Int → List Int → Int → Option (Int)
  | 0, _, _, _ => none
  | k + 1, x0, x5, x9 => if x9 < 16 then (belfryref15_Sum.l4 k x0 x5 x9 32768 0) else (belfryref15_Sum.l5 k x5 0)
def belfryref15_Sum.l4 : Nat → Int → List Int → Int → Int → Int → Option (Int)
  | 0, _, _, _, _, _ => none
  | k + 1, x0, x5, x9, x10, x11 => if x11 < x9 then (belfryref15_Sum.l4 k x0 x5 x9 (wrap64 (Int.tdiv x10 2)) (wrap64 (x11 + 1))) else (if 0 ≤ x9 then (if x9 < (x5.length : Int) then (if x10 = 0 then (none) else (belfryref15_Sum.l3 k x0 (x5.set (x9 : Int).toNat (Int.tmod (wrap64 ((rd x5 x9) + (wrap64 (Int.tdiv x0 x10)))) 2)) (wrap64 (x9 + 1)))) else (none)) else (none))
def belfryref15_Sum.l5 : Nat → List Int → Int → Option (Int)
  | 0, _, _ => none
  | k + 1, x5, x12 => if (wrap64 (x12 + 16)) < (x5.length : Int) then (if 0 ≤ x12 then (if x12 < (x5.length : Int) then (if (rd x5 x12) = 1 then ((some (x5.set (x12 : Int).toNat 0 : List Int)).bind fun y111 => (if 0 ≤ (wrap64 (x12 + 4)) then (if (wrap64 (x12 + 4)) < (x5.length : Int) then ((some (y111.set ((wrap64 (x12 + 4)) : Int).toNat (wrap64 (1 - (rd y111 (wrap64 (x12 + 4))))) : List Int)).bind fun y113 => (if 0 ≤ (wrap64 (x12 + 11)) then (if (wrap64 (x12 + 11)) < (x5.length : Int) then ((some (y113.set ((wrap64 (x12 + 11)) : Int).toNat (wrap64 (1 - (rd y113 (wrap64 (x12 + 11))))) : List Int)).bind fun y115 => (if 0 ≤ (wrap64 (x12 + 16)) then (belfryref15_Sum.l5 k (y115.set ((wrap64 (x12 + 16)) : Int).toNat (wrap64 (1 - (rd y115 (wrap64 (x12 + 16)))))) (wrap64 (x12 + 1))) else (none))) else (none)) else (none))) else (none)) else (none))) else (belfryref15_Sum.l5 k x5 (wrap64 (x12 + 1)))) else (none)) else (none)) else (belfryref15_Sum.l6 k x5 0 (wrap64 ((x5.length : Int) - 16)))
def belfryref15_Sum.l6 : Nat → List Int → Int → Int → Option (Int)
  | 0, _, _, _ => none
  | k + 1, x5, x13, x14 => if x14 < (x5.length : Int) then (if 0 ≤ x14 then (belfryref15_Sum.l6 k x5 (wrap64 ((wrap64 (2 * x13)) + (rd x5 x14))) (wrap64 (x14 + 1))) else (none)) else (some x13)
end
def belfryref15_Sum.f (k : Nat) (a0 : Int) (a1 : ByteArray) : Option (Int) := if (Int.tmod a0 65536) < 0 then (belfryref15_Sum.j0 k (wrap64 ((Int.tmod a0 65536) + 65536)) a1) else (belfryref15_Sum.j0 k (Int.tmod a0 65536) a1)
theorem belfryref15_Sum.mono_l : ∀ k, (∀ y0 y1, LeO (belfryref15_Sum.j0 k y0 y1) (belfryref15_Sum.j0 (k + 1) y0 y1)) ∧ (∀ y0 y1 y2 y3, LeO (belfryref15_Sum.l0 k y0 y1 y2 y3) (belfryref15_Sum.l0 (k + 1) y0 y1 y2 y3)) ∧ (∀ y0 y1 y2 y3 y4, LeO (belfryref15_Sum.l1 k y0 y1 y2 y3 y4) (belfryref15_Sum.l1 (k + 1) y0 y1 y2 y3 y4)) ∧ (∀ y0 y1 y2, LeO (belfryref15_Sum.l2 k y0 y1 y2) (belfryref15_Sum.l2 (k + 1) y0 y1 y2)) ∧ (∀ y0 y1 y2, LeO (belfryref15_Sum.l3 k y0 y1 y2) (belfryref15_Sum.l3 (k + 1) y0 y1 y2)) ∧ (∀ y0 y1 y2 y3 y4, LeO (belfryref15_Sum.l4 k y0 y1 y2 y3 y4) (belfryref15_Sum.l4 (k + 1) y0 y1 y2 y3 y4)) ∧ (∀ y0 y1, LeO (belfryref15_Sum.l5 k y0 y1) (belfryref15_Sum.l5 (k + 1) y0 y1)) ∧ (∀ y0 y1 y2, LeO (belfryref15_Sum.l6 k y0 y1 y2) (belfryref15_Sum.l6 (k + 1) y0 y1 y2))
  | 0 => ⟨fun _ _ r h => by simp [belfryref15_Sum.j0] at h, fun _ _ _ _ r h => by simp [belfryref15_Sum.l0] at h, fun _ _ _ _ _ r h => by simp [belfryref15_Sum.l1] at h, fun _ _ _ r h => by simp [belfryref15_Sum.l2] at h, fun _ _ _ r h => by simp [belfryref15_Sum.l3] at h, fun _ _ _ _ _ r h => by simp [belfryref15_Sum.l4] at h, fun _ _ r h => by simp [belfryref15_Sum.l5] at h, fun _ _ _ r h => by simp [belfryref15_Sum.l6] at h⟩
  | k + 1 => by
    obtain ⟨ih0, ih1, ih2, ih3, ih4, ih5, ih6, ih7⟩ := belfryref15_Sum.mono_l k
    refine ⟨?_, ?_, ?_, ?_, ?_, ?_, ?_, ?_⟩
    · intro y0 y1
      unfold belfryref15_Sum.j0
      repeat' first
      | (with_reducible exact ih0 _ _)
      | (with_reducible exact ih1 _ _ _ _)
      | (with_reducible exact ih2 _ _ _ _ _)
      | (with_reducible exact ih3 _ _ _)
      | (with_reducible exact ih4 _ _ _)
      | (with_reducible exact ih5 _ _ _ _ _)
      | (with_reducible exact ih6 _ _)
      | (with_reducible exact ih7 _ _ _)
      | (with_reducible exact LeO.refl _)
      | (with_reducible exact LeO.none _)
      | (with_reducible refine LeO.ite ?_ ?_)
      | (with_reducible refine LeO.bind ?_ (fun _ => ?_))
      | exact ih0 _ _
      | exact ih1 _ _ _ _
      | exact ih2 _ _ _ _ _
      | exact ih3 _ _ _
      | exact ih4 _ _ _
      | exact ih5 _ _ _ _ _
      | exact ih6 _ _
      | exact ih7 _ _ _
      | exact LeO.none _
      | refine LeO.ite ?_ ?_
      | refine LeO.bind ?_ (fun _ => ?_)
    · intro y0 y1 y2 y3
      unfold belfryref15_Sum.l0
      repeat' first
      | (with_reducible exact ih0 _ _)
      | (with_reducible exact ih1 _ _ _ _)
      | (with_reducible exact ih2 _ _ _ _ _)
      | (with_reducible exact ih3 _ _ _)
      | (with_reducible exact ih4 _ _ _)
      | (with_reducible exact ih5 _ _ _ _ _)
      | (with_reducible exact ih6 _ _)
      | (with_reducible exact ih7 _ _ _)
      | (with_reducible exact LeO.refl _)
      | (with_reducible exact LeO.none _)
      | (with_reducible refine LeO.ite ?_ ?_)
      | (with_reducible refine LeO.bind ?_ (fun _ => ?_))
      | exact ih0 _ _
      | exact ih1 _ _ _ _
      | exact ih2 _ _ _ _ _
      | exact ih3 _ _ _
      | exact ih4 _ _ _
      | exact ih5 _ _ _ _ _
      | exact ih6 _ _
      | exact ih7 _ _ _
      | exact LeO.none _
      | refine LeO.ite ?_ ?_
      | refine LeO.bind ?_ (fun _ => ?_)
    · intro y0 y1 y2 y3 y4
      unfold belfryref15_Sum.l1
      repeat' first
      | (with_reducible exact ih0 _ _)
      | (with_reducible exact ih1 _ _ _ _)
      | (with_reducible exact ih2 _ _ _ _ _)
      | (with_reducible exact ih3 _ _ _)
      | (with_reducible exact ih4 _ _ _)
      | (with_reducible exact ih5 _ _ _ _ _)
      | (with_reducible exact ih6 _ _)
      | (with_reducible exact ih7 _ _ _)
      | (with_reducible exact LeO.refl _)
      | (with_reducible exact LeO.none _)
      | (with_reducible refine LeO.ite ?_ ?_)
      | (with_reducible refine LeO.bind ?_ (fun _ => ?_))
      | exact ih0 _ _
      | exact ih1 _ _ _ _
      | exact ih2 _ _ _ _ _
      | exact ih3 _ _ _
      | exact ih4 _ _ _
      | exact ih5 _ _ _ _ _
      | exact ih6 _ _
      | exact ih7 _ _ _
      | exact LeO.none _
      | refine LeO.ite ?_ ?_
      | refine LeO.bind ?_ (fun _ => ?_)
    · intro y0 y1 y2
      unfold belfryref15_Sum.l2
      repeat' first
      | (with_reducible exact ih0 _ _)
      | (with_reducible exact ih1 _ _ _ _)
      | (with_reducible exact ih2 _ _ _ _ _)
      | (with_reducible exact ih3 _ _ _)
      | (with_reducible exact ih4 _ _ _)
      | (with_reducible exact ih5 _ _ _ _ _)
      | (with_reducible exact ih6 _ _)
      | (with_reducible exact ih7 _ _ _)
      | (with_reducible exact LeO.refl _)
      | (with_reducible exact LeO.none _)
      | (with_reducible refine LeO.ite ?_ ?_)
      | (with_reducible refine LeO.bind ?_ (fun _ => ?_))
      | exact ih0 _ _
      | exact ih1 _ _ _ _
      | exact ih2 _ _ _ _ _
      | exact ih3 _ _ _
      | exact ih4 _ _ _
      | exact ih5 _ _ _ _ _
      | exact ih6 _ _
      | exact ih7 _ _ _
      | exact LeO.none _
      | refine LeO.ite ?_ ?_
      | refine LeO.bind ?_ (fun _ => ?_)
    · intro y0 y1 y2
      unfold belfryref15_Sum.l3
      repeat' first
      | (with_reducible exact ih0 _ _)
      | (with_reducible exact ih1 _ _ _ _)
      | (with_reducible exact ih2 _ _ _ _ _)
      | (with_reducible exact ih3 _ _ _)
      | (with_reducible exact ih4 _ _ _)
      | (with_reducible exact ih5 _ _ _ _ _)
      | (with_reducible exact ih6 _ _)
      | (with_reducible exact ih7 _ _ _)
      | (with_reducible exact LeO.refl _)
      | (with_reducible exact LeO.none _)
      | (with_reducible refine LeO.ite ?_ ?_)
      | (with_reducible refine LeO.bind ?_ (fun _ => ?_))
      | exact ih0 _ _
      | exact ih1 _ _ _ _
      | exact ih2 _ _ _ _ _
      | exact ih3 _ _ _
      | exact ih4 _ _ _
      | exact ih5 _ _ _ _ _
      | exact ih6 _ _
      | exact ih7 _ _ _
      | exact LeO.none _
      | refine LeO.ite ?_ ?_
      | refine LeO.bind ?_ (fun _ => ?_)
    · intro y0 y1 y2 y3 y4
      unfold belfryref15_Sum.l4
      repeat' first
      | (with_reducible exact ih0 _ _)
      | (with_reducible exact ih1 _ _ _ _)
      | (with_reducible exact ih2 _ _ _ _ _)
      | (with_reducible exact ih3 _ _ _)
      | (with_reducible exact ih4 _ _ _)
      | (with_reducible exact ih5 _ _ _ _ _)
      | (with_reducible exact ih6 _ _)
      | (with_reducible exact ih7 _ _ _)
      | (with_reducible exact LeO.refl _)
      | (with_reducible exact LeO.none _)
      | (with_reducible refine LeO.ite ?_ ?_)
      | (with_reducible refine LeO.bind ?_ (fun _ => ?_))
      | exact ih0 _ _
      | exact ih1 _ _ _ _
      | exact ih2 _ _ _ _ _
      | exact ih3 _ _ _
      | exact ih4 _ _ _
      | exact ih5 _ _ _ _ _
      | exact ih6 _ _
      | exact ih7 _ _ _
      | exact LeO.none _
      | refine LeO.ite ?_ ?_
      | refine LeO.bind ?_ (fun _ => ?_)
    · intro y0 y1
      unfold belfryref15_Sum.l5
      repeat' first
      | (with_reducible exact ih0 _ _)
      | (with_reducible exact ih1 _ _ _ _)
      | (with_reducible exact ih2 _ _ _ _ _)
      | (with_reducible exact ih3 _ _ _)
      | (with_reducible exact ih4 _ _ _)
      | (with_reducible exact ih5 _ _ _ _ _)
      | (with_reducible exact ih6 _ _)
      | (with_reducible exact ih7 _ _ _)
      | (with_reducible exact LeO.refl _)
      | (with_reducible exact LeO.none _)
      | (with_reducible refine LeO.ite ?_ ?_)
      | (with_reducible refine LeO.bind ?_ (fun _ => ?_))
      | exact ih0 _ _
      | exact ih1 _ _ _ _
      | exact ih2 _ _ _ _ _
      | exact ih3 _ _ _
      | exact ih4 _ _ _
      | exact ih5 _ _ _ _ _
      | exact ih6 _ _
      | exact ih7 _ _ _
      | exact LeO.none _
      | refine LeO.ite ?_ ?_
      | refine LeO.bind ?_ (fun _ => ?_)
    · intro y0 y1 y2
      unfold belfryref15_Sum.l6
      repeat' first
      | (with_reducible exact ih0 _ _)
      | (with_reducible exact ih1 _ _ _ _)
      | (with_reducible exact ih2 _ _ _ _ _)
      | (with_reducible exact ih3 _ _ _)
      | (with_reducible exact ih4 _ _ _)
      | (with_reducible exact ih5 _ _ _ _ _)
      | (with_reducible exact ih6 _ _)
      | (with_reducible exact ih7 _ _ _)
      | (with_reducible exact LeO.refl _)
      | (with_reducible exact LeO.none _)
      | (with_reducible refine LeO.ite ?_ ?_)
      | (with_reducible refine LeO.bind ?_ (fun _ => ?_))
      | exact ih0 _ _
      | exact ih1 _ _ _ _
      | exact ih2 _ _ _ _ _
      | exact ih3 _ _ _
      | exact ih4 _ _ _
      | exact ih5 _ _ _ _ _
      | exact ih6 _ _
      | exact ih7 _ _ _
      | exact LeO.none _
      | refine LeO.ite ?_ ?_
      | refine LeO.bind ?_ (fun _ => ?_)
theorem belfryref15_Sum.mono : ∀ a0 a1 k, LeO (belfryref15_Sum.f k a0 a1) (belfryref15_Sum.f (k + 1) a0 a1) := by
  intro a0 a1 k
  obtain ⟨ih0, ih1, ih2, ih3, ih4, ih5, ih6, ih7⟩ := belfryref15_Sum.mono_l k
  unfold belfryref15_Sum.f
  repeat' first
      | (with_reducible exact ih0 _ _)
      | (with_reducible exact ih1 _ _ _ _)
      | (with_reducible exact ih2 _ _ _ _ _)
      | (with_reducible exact ih3 _ _ _)
      | (with_reducible exact ih4 _ _ _)
      | (with_reducible exact ih5 _ _ _ _ _)
      | (with_reducible exact ih6 _ _)
      | (with_reducible exact ih7 _ _ _)
      | (with_reducible exact LeO.refl _)
      | (with_reducible exact LeO.none _)
      | (with_reducible refine LeO.ite ?_ ?_)
      | (with_reducible refine LeO.bind ?_ (fun _ => ?_))
      | exact ih0 _ _
      | exact ih1 _ _ _ _
      | exact ih2 _ _ _ _ _
      | exact ih3 _ _ _
      | exact ih4 _ _ _
      | exact ih5 _ _ _ _ _
      | exact ih6 _ _
      | exact ih7 _ _ _
      | exact LeO.none _
      | refine LeO.ite ?_ ?_
      | refine LeO.bind ?_ (fun _ => ?_)
def belfryref15_Sum.T24 : Bool × List (List Nat × List Nat) := (true, [([], []), ([], []), ([], []), ([], []), ([2, 3], [2, 3]), ([4], [4]), ([], []), ([], []), ([6, 7], [6, 7]), ([5, 8], [5, 8]), ([9], [9]), ([0, 1, 0, 1, 2, 3, 4, 5, 6, 7, 8, 9, 10], [0, 1]), ([11, 10, 0, 1, 2, 3, 4, 5, 6, 7, 8, 9, 10], [10, 11])])
def belfryref15_Sum.B24 : List Nat := [0, 0, 0, 0, 12, 28, 0, 0, 192, 508, 1020, 2047, 4095]
theorem belfryref15_Sum.tab24 : rtab .any (opsOf Try.f26 24) = belfryref15_Sum.T24 := by kernel_rfl
theorem belfryref15_Sum.bits24 : waitsOk belfryref15_Sum.T24.2 belfryref15_Sum.B24 = true := by kernel_rfl
set_option maxHeartbeats 8000000 in
set_option maxRecDepth 100000 in
theorem belfryref15_Sum.calls (k : Nat) (a0 : Int) (a1 : ByteArray) (r : Int) (w : World) (h : belfryref15_Sum.f k a0 a1 = some r) :
    Calls Try.prog 26 #[.int .i64 a0, .string a1] w fun e w' => e = .returned (.int .i64 r) ∧ Below w.heap.size w w' := by
  have HB := Aside0.mk (Below.refl w.heap.size w)
  have H : (if (Int.tmod a0 65536) < 0 then (belfryref15_Sum.j0 k (wrap64 ((Int.tmod a0 65536) + 65536)) a1) else (belfryref15_Sum.j0 k (Int.tmod a0 65536) a1)) = some r := h
  clear h
  have HC3 := Aside0.mk H
  clear H
  go_enter Try.func26, Try.ntmps26
  go_upto_if 18 with (fail)
  go_cut [0] (fun v0 wc => ∃ (kq : Nat) (x0_2 : Int), v0 = .int .i64 x0_2 ∧ Aside0 (belfryref15_Sum.j0 kq x0_2 a1 = some r) ∧ Aside0 (kq ≤ k) ∧ Aside0 (Below w.heap.size w wc))
  case first =>
    have H := HC3.out
    clear HC3
    by_cases c4 : (Int.tmod a0 65536) < 0
    · rw [if_pos c4] at H
      have c4b0 : decide ((Int.tmod a0 65536) < 0) = true := decide_eq_true c4
      clear c4
      (first | rw [c4b0] | (simp only [i64_w, i32_w]; rw [c4b0]) | skip)
      have H' := Aside0.mk H
      clear H
      go_wp2
      go_meet
      case rel => exact ⟨_, (wrap64 ((Int.tmod a0 65536) + 65536)), (by first | rfl | (simp; done) | (simp [*]; done)), H', ⟨by first | omega | exact Nat.le_refl _⟩, ⟨by repeat (first | (with_reducible first | exact HB.out | apply below_alloc | apply pw_below_drewN | apply below_drew1) | exact HB.out)⟩⟩
    · rw [if_neg c4] at H
      have c4b0 : decide ((Int.tmod a0 65536) < 0) = false := decide_eq_false c4
      clear c4
      (first | rw [c4b0] | (simp only [i64_w, i32_w]; rw [c4b0]) | skip)
      have H' := Aside0.mk H
      clear H
      go_wp2
      go_meet
      case rel => exact ⟨_, (Int.tmod a0 65536), (by first | rfl | (simp; done) | (simp [*]; done)), H', ⟨by first | omega | exact Nat.le_refl _⟩, ⟨by repeat (first | (with_reducible first | exact HB.out | apply below_alloc | apply pw_below_drewN | apply below_drew1) | exact HB.out)⟩⟩
  case rest =>
    clear HC3
    try clear c2
    try clear p2
    try clear c4
    try clear c4b0
    obtain ⟨kq, x0_2, rfl, HA, HJ2, HB⟩ := hcut
    cases kq with
    | zero => exact absurd HA.out (by simp [belfryref15_Sum.j0])
    | succ kj2 =>
      have H := HA.out
      clear HA
      simp only [belfryref15_Sum.j0] at H
      have H' := Aside0.mk H
      clear H
      go_wp2
      go_loopg [5, 6] kj2 (fun kq v5 v6 w' => ∃ (x5_2 : List Int) (x6_2 : Int), v6 = .int .i64 x6_2 ∧ Aside0 (belfryref15_Sum.l0 kq x0_2 a1 x5_2 x6_2 = some r) ∧ Aside0 (kq ≤ kj2) ∧ Aside0 (Kd.R (Kd.int .i64) 3 w' w.heap.size (fun _ => True) v5 x5_2) ∧ Aside0 (Below w.heap.size w w'))
      case atStart => exact ⟨(([] : List Int)), (0), (by first | rfl | (simp; done) | (simp [*]; done)), H', ⟨Nat.le_refl _⟩, ⟨by first | exact Kd.R_nil _ _ _ _ _ | exact Kd.N_nil _ _ _ _ _ | exact Kd.V_nil _ _ _ _ _ | exact Kd.Q_nil _ _ _ _ _ | exact Kd.S_nil _ _ _ _ _⟩, ⟨by repeat (first | (with_reducible first | exact HB.out | apply below_alloc | apply pw_below_drewN | apply below_drew1) | exact HB.out)⟩⟩
      case round =>
        clear H'
        try clear c2
        try clear p2
        try clear c4
        try clear c4b0
        try clear p2
        obtain ⟨x5_2, x6_2, rfl, HA, HK2, HO_5, HB⟩ := hrel
        cases gk with
        | zero => exact absurd HA.out (by simp [belfryref15_Sum.l0])
        | succ k2 =>
          have H := HA.out
          clear HA
          simp only [belfryref15_Sum.l0] at H
          by_cases c5 : x6_2 < (a1.size : Int)
          · rw [if_pos c5] at H
            have c5b0 : decide (x6_2 < (a1.size : Int)) = true := decide_eq_true c5
            clear c5
            have H' := Aside0.mk H
            clear H
            go_wp2
            go_loopg [5, 7] k2 (fun kq v5 v7 w' => ∃ (x5_3 : List Int) (x7_3 : Int), v7 = .int .i64 x7_3 ∧ Aside0 (belfryref15_Sum.l1 kq x0_2 a1 x5_3 x6_2 x7_3 = some r) ∧ Aside0 (kq ≤ k2) ∧ Aside0 (Kd.R (Kd.int .i64) 3 w' w.heap.size (fun _ => True) v5 x5_3) ∧ Aside0 (Below w.heap.size w w'))
            case atStart => exact ⟨(x5_2), (128), (by first | rfl | (simp; done) | (simp [*]; done)), H', ⟨Nat.le_refl _⟩, ⟨by (with_reducible repeat (first | apply Kd.R_alloc | apply Kd.R_drewN | apply Kd.R_drew)); exact HO_5.out⟩, ⟨by repeat (first | (with_reducible first | exact HB.out | apply below_alloc | apply pw_below_drewN | apply below_drew1) | exact HB.out)⟩⟩
            case round =>
              clear H'
              try clear c2
              try clear p2
              try clear c4
              try clear c4b0
              try clear c5
              try clear c5b0
              try clear p2
              obtain ⟨x5_3, x7_3, rfl, HA, HK3, HO_5, HB⟩ := hrel
              cases gk with
              | zero => exact absurd HA.out (by simp [belfryref15_Sum.l1])
              | succ k3 =>
                have H := HA.out
                clear HA
                simp only [belfryref15_Sum.l1] at H
                by_cases c6 : x7_3 ≥ 1
                · rw [if_pos c6] at H
                  have c6b0 : decide (1 ≤ x7_3) = true := decide_eq_true c6
                  clear c6
                  by_cases c7 : 0 ≤ x6_2
                  · rw [if_pos c7] at H
                    have c7b0 : decide (0 ≤ x6_2) = true := decide_eq_true c7
                    clear c7
                    by_cases c8 : x6_2 < (a1.size : Int)
                    · rw [if_pos c8] at H
                      have c8b0 : decide (x6_2 < (a1.size : Int)) = true := decide_eq_true c8
                      clear c8
                      by_cases c10 : x7_3 = 0
                      · rw [if_pos c10] at H
                        exact absurd H (by simp)
                      · rw [if_neg c10] at H
                        have c10b0 : (x7_3 == 0) = false := beq_eq_false_iff_ne.mpr c10
                        have c10b1 : (x7_3 != 0) = true := bne_iff_ne.mpr c10
                        by_cases c11 : x5_3.length < 17592186044416
                        · rw [if_pos c11] at H
                          have LMc11 := Aside0.mk c11
                          clear c11
                          obtain ⟨y102, hy102⟩ : ∃ y_ : List Int, y_ = (x5_3 ++ [Int.tmod (wrap64 (Int.tdiv (wrap64 (bt a1 x6_2)) x7_3)) 2]) := ⟨_, rfl⟩
                          replace H : (belfryref15_Sum.l1 k3 x0_2 a1 y102 x6_2 (wrap64 (Int.tdiv x7_3 2))) = some r := by first | (rw [hy102]; with_reducible exact H) | (have H2_ := (Option.bind_some _ _).symm.trans H; rw [hy102]; with_reducible exact H2_) | (have H2_ := (Option.bind_some _ _).symm.trans H; with_reducible exact H2_) | with_reducible exact H | (rw [hy102]; exact H) | exact H
                          have Ny102 := Aside0.mk hy102
                          clear hy102
                          have H' := Aside0.mk H
                          clear H
                          have p9 : 0 ≤ (x6_2 : Int) := of_decide_eq_true (by first | (with_reducible assumption) | assumption)
                          have q9 : x6_2 < (a1.size : Int) := of_decide_eq_true (by first | (with_reducible assumption) | assumption)
                          have hx9 := bt_at a1 x6_2
                          replace p9 := eq_true p9
                          replace q9 := eq_true q9
                          go_wp2_with (first | ((with_reducible refine gate_builtin (b := .append) (xs := #[.tmp 31, .tmp 39]) rfl ?_); at_builtin; refine Kd.R_append (Kd.int .i64) (w0 := w) w.heap.size rfl (.tmp 31) (.tmp 39) 38 3 (.int .i64 0) 8 rfl Try.underlying38 info3 rfl (by decide) (by omega) u5 x5_3 (Int.tmod (wrap64 (Int.tdiv (wrap64 (bt a1 x6_2)) x7_3)) 2) [.int .i64 (Int.tmod (wrap64 (Int.tdiv (wrap64 (bt a1 x6_2)) x7_3)) 2)] (fun _ => True) (fun _ => False) rfl rfl ?aP (fun _ hk => hk.elim) ?aF ?aO ?aB ?aS ?aL ?_; (case aP => exact rfl); (case aB => exact (by repeat (first | (with_reducible first | exact HB.out | apply below_alloc | apply pw_below_drewN | apply below_drew1) | exact HB.out))); (case aF => exact (fun _ _ => trivial)); (case aO => exact (by (with_reducible repeat (first | apply Kd.R_alloc | apply Kd.R_drewN | apply Kd.R_drew)); exact HO_5.out)); (case aS => exact (below_size (by repeat (first | (with_reducible first | exact HB.out | apply below_alloc | apply pw_below_drewN | apply below_drew1) | exact HB.out)))); (case aL => have := LMc11.out; omega); intro v103 w12 ho hb hg hat; rw [← Ny102.out] at ho; have n0_ := Aside0.mk (hb); have n1_ := Aside0.mk (ho); clear HB; clear HO_5; have HB := n0_; have HO104 := n1_; clear n0_ n1_; clear ho hb hg hat))
                          go_roundg k3
                          case measure => have := HJ2.out; have := HK2.out; have := HK3.out; omega
                          case rel => exact ⟨(y102), (wrap64 (Int.tdiv x7_3 2)), (by first | rfl | (simp; done) | (simp [*]; done)), H', ⟨by have := HJ2.out; have := HK2.out; have := HK3.out; omega⟩, ⟨by (with_reducible repeat (first | apply Kd.R_alloc | apply Kd.R_drewN | apply Kd.R_drew)); exact HO104.out⟩, ⟨by repeat (first | (with_reducible first | exact HB.out | apply below_alloc | apply pw_below_drewN | apply below_drew1) | exact HB.out)⟩⟩
                        · rw [if_neg c11] at H
                          exact absurd H (by simp)
                    · rw [if_neg c8] at H
                      exact absurd H (by simp)
                  · rw [if_neg c7] at H
                    exact absurd H (by simp)
                · rw [if_neg c6] at H
                  have c6b0 : decide (1 ≤ x7_3) = false := decide_eq_false c6
                  clear c6
                  have H' := Aside0.mk H
                  clear H
                  go_wp2
                  go_roundg k3
                  case measure => have := HJ2.out; have := HK2.out; have := HK3.out; omega
                  case rel => exact ⟨(x5_3), (wrap64 (x6_2 + 1)), (by first | rfl | (simp; done) | (simp [*]; done)), H', ⟨by have := HJ2.out; have := HK2.out; have := HK3.out; omega⟩, ⟨by (with_reducible repeat (first | apply Kd.R_alloc | apply Kd.R_drewN | apply Kd.R_drew)); exact HO_5.out⟩, ⟨by repeat (first | (with_reducible first | exact HB.out | apply below_alloc | apply pw_below_drewN | apply below_drew1) | exact HB.out)⟩⟩
          · rw [if_neg c5] at H
            have c5b0 : decide (x6_2 < (a1.size : Int)) = false := decide_eq_false c5
            clear c5
            have H' := Aside0.mk H
            clear H
            go_wp2
            go_loopg [5, 8] k2 (fun kq v5 v8 w' => ∃ (x5_3 : List Int) (x8_3 : Int), v8 = .int .i64 x8_3 ∧ Aside0 (belfryref15_Sum.l2 kq x0_2 x5_3 x8_3 = some r) ∧ Aside0 (kq ≤ k2) ∧ Aside0 (Kd.R (Kd.int .i64) 3 w' w.heap.size (fun _ => True) v5 x5_3) ∧ Aside0 (Below w.heap.size w w'))
            case atStart => exact ⟨(x5_2), (0), (by first | rfl | (simp; done) | (simp [*]; done)), H', ⟨Nat.le_refl _⟩, ⟨by (with_reducible repeat (first | apply Kd.R_alloc | apply Kd.R_drewN | apply Kd.R_drew)); exact HO_5.out⟩, ⟨by repeat (first | (with_reducible first | exact HB.out | apply below_alloc | apply pw_below_drewN | apply below_drew1) | exact HB.out)⟩⟩
            case round =>
              clear H'
              try clear c1
              try clear c2
              try clear p2
              try clear c4
              try clear c4b0
              try clear c5
              try clear c5b0
              try clear c6
              try clear c6b0
              try clear p6
              try clear c7
              try clear c7b0
              try clear c8
              try clear c8b0
              try clear p9
              try clear q9
              try clear hx9
              try clear c10
              try clear c10b0
              try clear c10b1
              try clear c11
              try clear p2
              try clear p9
              try clear q9
              obtain ⟨x5_3, x8_3, rfl, HA, HK3, HO_5, HB⟩ := hrel
              cases gk with
              | zero => exact absurd HA.out (by simp [belfryref15_Sum.l2])
              | succ k3 =>
                have H := HA.out
                clear HA
                simp only [belfryref15_Sum.l2] at H
                by_cases c13 : x8_3 < 16
                · rw [if_pos c13] at H
                  have c13b0 : decide (x8_3 < 16) = true := decide_eq_true c13
                  clear c13
                  by_cases c14 : x5_3.length < 17592186044416
                  · rw [if_pos c14] at H
                    have LMc14 := Aside0.mk c14
                    clear c14
                    obtain ⟨y105, hy105⟩ : ∃ y_ : List Int, y_ = (x5_3 ++ [0]) := ⟨_, rfl⟩
                    replace H : (belfryref15_Sum.l2 k3 x0_2 y105 (wrap64 (x8_3 + 1))) = some r := by first | (rw [hy105]; with_reducible exact H) | (have H2_ := (Option.bind_some _ _).symm.trans H; rw [hy105]; with_reducible exact H2_) | (have H2_ := (Option.bind_some _ _).symm.trans H; with_reducible exact H2_) | with_reducible exact H | (rw [hy105]; exact H) | exact H
                    have Ny105 := Aside0.mk hy105
                    clear hy105
                    have H' := Aside0.mk H
                    clear H
                    go_wp2_with (first | ((with_reducible refine gate_builtin (b := .append) (xs := #[.tmp 45, .tmp 46]) rfl ?_); at_builtin; refine Kd.R_append (Kd.int .i64) (w0 := w) w.heap.size rfl (.tmp 45) (.tmp 46) 38 3 (.int .i64 0) 8 rfl Try.underlying38 info3 rfl (by decide) (by omega) u5 x5_3 0 [.int .i64 0] (fun _ => True) (fun _ => False) rfl rfl ?aP (fun _ hk => hk.elim) ?aF ?aO ?aB ?aS ?aL ?_; (case aP => exact rfl); (case aB => exact (by repeat (first | (with_reducible first | exact HB.out | apply below_alloc | apply pw_below_drewN | apply below_drew1) | exact HB.out))); (case aF => exact (fun _ _ => trivial)); (case aO => exact (by (with_reducible repeat (first | apply Kd.R_alloc | apply Kd.R_drewN | apply Kd.R_drew)); exact HO_5.out)); (case aS => exact (below_size (by repeat (first | (with_reducible first | exact HB.out | apply below_alloc | apply pw_below_drewN | apply below_drew1) | exact HB.out)))); (case aL => have := LMc14.out; omega); intro v106 w15 ho hb hg hat; rw [← Ny105.out] at ho; have n0_ := Aside0.mk (hb); have n1_ := Aside0.mk (ho); clear HB; clear HO_5; have HB := n0_; have HO107 := n1_; clear n0_ n1_; clear ho hb hg hat))
                    go_roundg k3
                    case measure => have := HJ2.out; have := HK2.out; have := HK3.out; omega
                    case rel => exact ⟨(y105), (wrap64 (x8_3 + 1)), (by first | rfl | (simp; done) | (simp [*]; done)), H', ⟨by have := HJ2.out; have := HK2.out; have := HK3.out; omega⟩, ⟨by (with_reducible repeat (first | apply Kd.R_alloc | apply Kd.R_drewN | apply Kd.R_drew)); exact HO107.out⟩, ⟨by repeat (first | (with_reducible first | exact HB.out | apply below_alloc | apply pw_below_drewN | apply below_drew1) | exact HB.out)⟩⟩
                  · rw [if_neg c14] at H
                    exact absurd H (by simp)
                · rw [if_neg c13] at H
                  have c13b0 : decide (x8_3 < 16) = false := decide_eq_false c13
                  clear c13
                  have H' := Aside0.mk H
                  clear H
                  go_wp2
                  go_loopg [9] k3 (fun kq v9 w' => ∃ (x5_4 : List Int) (x9_4 : Int), v9 = .int .i64 x9_4 ∧ Aside0 (belfryref15_Sum.l3 kq x0_2 x5_4 x9_4 = some r) ∧ Aside0 (kq ≤ k3) ∧ Aside0 (Kd.R (Kd.int .i64) 3 w' w.heap.size (fun _ => True) u5 x5_4) ∧ Aside0 (Below w.heap.size w w'))
                  case atStart => exact ⟨(x5_3), (0), (by first | rfl | (simp; done) | (simp [*]; done)), H', ⟨Nat.le_refl _⟩, ⟨by (with_reducible repeat (first | apply Kd.R_alloc | apply Kd.R_drewN | apply Kd.R_drew)); exact HO_5.out⟩, ⟨by repeat (first | (with_reducible first | exact HB.out | apply below_alloc | apply pw_below_drewN | apply below_drew1) | exact HB.out)⟩⟩
                  case round =>
                    clear H'
                    try clear c1
                    try clear c2
                    try clear p2
                    try clear c4
                    try clear c4b0
                    try clear c5
                    try clear c5b0
                    try clear c6
                    try clear c6b0
                    try clear p6
                    try clear c7
                    try clear c7b0
                    try clear c8
                    try clear c8b0
                    try clear p9
                    try clear q9
                    try clear hx9
                    try clear c10
                    try clear c10b0
                    try clear c10b1
                    try clear c11
                    try clear c13
                    try clear c13b0
                    try clear c14
                    try clear p2
                    try clear p6
                    try clear p9
                    try clear q9
                    obtain ⟨x5_4, x9_4, rfl, HA, HK4, HO_5, HB⟩ := hrel
                    cases gk with
                    | zero => exact absurd HA.out (by simp [belfryref15_Sum.l3])
                    | succ k4 =>
                      have H := HA.out
                      clear HA
                      simp only [belfryref15_Sum.l3] at H
                      by_cases c16 : x9_4 < 16
                      · rw [if_pos c16] at H
                        have c16b0 : decide (x9_4 < 16) = true := decide_eq_true c16
                        clear c16
                        have H' := Aside0.mk H
                        clear H
                        go_wp2
                        go_loopg [10, 11] k4 (fun kq v10 v11 w' => ∃ (x10_5 : Int) (x11_5 : Int), v10 = .int .i64 x10_5 ∧ v11 = .int .i64 x11_5 ∧ Aside0 (belfryref15_Sum.l4 kq x0_2 x5_4 x9_4 x10_5 x11_5 = some r) ∧ Aside0 (kq ≤ k4) ∧ Aside0 (Kd.R (Kd.int .i64) 3 w' w.heap.size (fun _ => True) u5 x5_4) ∧ Aside0 (Below w.heap.size w w'))
                        case atStart => exact ⟨(32768), (0), (by first | rfl | (simp; done) | (simp [*]; done)), (by first | rfl | (simp; done) | (simp [*]; done)), H', ⟨Nat.le_refl _⟩, ⟨by (with_reducible repeat (first | apply Kd.R_alloc | apply Kd.R_drewN | apply Kd.R_drew)); exact HO_5.out⟩, ⟨by repeat (first | (with_reducible first | exact HB.out | apply below_alloc | apply pw_below_drewN | apply below_drew1) | exact HB.out)⟩⟩
                        case round =>
                          clear H'
                          try clear c1
                          try clear c2
                          try clear p2
                          try clear c4
                          try clear c4b0
                          try clear c5
                          try clear c5b0
                          try clear c6
                          try clear c6b0
                          try clear p6
                          try clear c7
                          try clear c7b0
                          try clear c8
                          try clear c8b0
                          try clear p9
                          try clear q9
                          try clear hx9
                          try clear c10
                          try clear c10b0
                          try clear c10b1
                          try clear c11
                          try clear c13
                          try clear c13b0
                          try clear c14
                          try clear c16
                          try clear c16b0
                          try clear p2
                          try clear p6
                          try clear p9
                          try clear q9
                          obtain ⟨x10_5, x11_5, rfl, rfl, HA, HK5, HO_5, HB⟩ := hrel
                          cases gk with
                          | zero => exact absurd HA.out (by simp [belfryref15_Sum.l4])
                          | succ k5 =>
                            have H := HA.out
                            clear HA
                            simp only [belfryref15_Sum.l4] at H
                            by_cases c17 : x11_5 < x9_4
                            · rw [if_pos c17] at H
                              have c17b0 : decide (x11_5 < x9_4) = true := decide_eq_true c17
                              clear c17
                              have H' := Aside0.mk H
                              clear H
                              go_wp2
                              go_roundg k5
                              case measure => have := HJ2.out; have := HK2.out; have := HK3.out; have := HK4.out; have := HK5.out; omega
                              case rel => exact ⟨(wrap64 (Int.tdiv x10_5 2)), (wrap64 (x11_5 + 1)), (by first | rfl | (simp; done) | (simp [*]; done)), (by first | rfl | (simp; done) | (simp [*]; done)), H', ⟨by have := HJ2.out; have := HK2.out; have := HK3.out; have := HK4.out; have := HK5.out; omega⟩, ⟨by (with_reducible repeat (first | apply Kd.R_alloc | apply Kd.R_drewN | apply Kd.R_drew)); exact HO_5.out⟩, ⟨by repeat (first | (with_reducible first | exact HB.out | apply below_alloc | apply pw_below_drewN | apply below_drew1) | exact HB.out)⟩⟩
                            · rw [if_neg c17] at H
                              have c17b0 : decide (x11_5 < x9_4) = false := decide_eq_false c17
                              clear c17
                              by_cases c18 : 0 ≤ x9_4
                              · rw [if_pos c18] at H
                                have c18b0 : decide (0 ≤ x9_4) = true := decide_eq_true c18
                                clear c18
                                by_cases c19 : x9_4 < (x5_4.length : Int)
                                · rw [if_pos c19] at H
                                  have c19b0 : decide (x9_4 < (x5_4.length : Int)) = true := decide_eq_true c19
                                  clear c19
                                  by_cases c20 : x10_5 = 0
                                  · rw [if_pos c20] at H
                                    exact absurd H (by simp)
                                  · rw [if_neg c20] at H
                                    have c20b0 : (x10_5 == 0) = false := beq_eq_false_iff_ne.mpr c20
                                    have c20b1 : (x10_5 != 0) = true := bne_iff_ne.mpr c20
                                    obtain ⟨y109, hy109⟩ : ∃ y_ : List Int, y_ = (x5_4.set (x9_4 : Int).toNat (Int.tmod (wrap64 ((rd x5_4 x9_4) + (wrap64 (Int.tdiv x0_2 x10_5)))) 2)) := ⟨_, rfl⟩
                                    replace H : (belfryref15_Sum.l3 k5 x0_2 y109 (wrap64 (x9_4 + 1))) = some r := by first | (rw [hy109]; with_reducible exact H) | (have H2_ := (Option.bind_some _ _).symm.trans H; rw [hy109]; with_reducible exact H2_) | (have H2_ := (Option.bind_some _ _).symm.trans H; with_reducible exact H2_) | with_reducible exact H | (rw [hy109]; exact H) | exact H
                                    have Ny109 := Aside0.mk hy109
                                    clear hy109
                                    have H' := Aside0.mk H
                                    clear H
                                    try go_wp2
                                    have n0_ := Aside0.mk (Kd.R_drew HO_5.out)
                                    have n1_ := Aside0.mk (below_drew1 HB.out)
                                    clear HO_5
                                    clear HB
                                    have HO_5 := n0_
                                    have HB := n1_
                                    clear n0_ n1_
                                    obtain ⟨Ao23, co23, eo23⟩ := Kd.R_slice HO_5.out
                                    (first | subst eo23 | (injection eo23 with f1_ f2_ f3_; have f4_ := f1_.symm; have f5_ := f3_.symm; clear f1_ f2_ f3_; subst f4_; subst f5_))
                                    have p108 : 0 ≤ (x9_4 : Int) := of_decide_eq_true (by first | (with_reducible assumption) | assumption)
                                    have q108 : x9_4 < (x5_4.length : Int) := of_decide_eq_true (by first | (with_reducible assumption) | assumption)
                                    obtain ⟨ad108, e108, hx108_0⟩ := Kd.at_int (Kd.R_reads' HO_5.out).2.2 x9_4 p108 q108
                                    cases e108
                                    replace p108 := eq_true p108
                                    replace q108 := eq_true q108
                                    have p21 : 0 ≤ (x9_4 : Int) := of_decide_eq_true (by first | (with_reducible assumption) | assumption)
                                    have q21 : (x9_4 : Int) < ((x5_4.length : Int) : Int) := of_decide_eq_true (by first | (with_reducible assumption) | assumption)
                                    obtain ⟨go21, co21, eo21, gb21, gl21, cl21, HG21⟩ := Kd.R_form HO_5.out (by omega)
                                    (first | cases eo21 | (injection eo21 with ea_ en_ ec_; (first | subst ea_ | (injection ea_ with ea_; subst ea_)); subst ec_; clear en_))
                                    have GB21 := Aside0.mk gb21
                                    have GG21 := Aside0.mk HG21
                                    clear gb21 gl21 HG21
                                    (first | simp only [add_plain] at hx108_0 | skip)
                                    obtain ⟨hx21_0, hf21_0⟩ := Kd.R_celln 0 HO_5.out (x9_4 : Int) p21 q21
                                    replace p21 := eq_true p21
                                    replace q21 := eq_true q21
                                    have HP24 := Kd.R_putn HO_5.out (x9_4 : Int) (Int.tmod (wrap64 ((rd x5_4 x9_4) + (wrap64 (Int.tdiv x0_2 x10_5)))) 2)
                                    rw [← Ny109.out] at HP24
                                    have HQ24 := Aside0.mk HP24
                                    clear HP24
                                    refine start_ (n := 13) (S := fun w' => w'.cell? ⟨go21, (x9_4).toNat, none⟩ = some (.int .i64 (rd x5_4 x9_4))) (ds := [12]) #[false, false, false, false, false, false, false, false, false, false, false, false, false] (by kernel_rfl) rfl rfl (hx108_0) (fun hHeld => ?_); refine with_tabW belfryref15_Sum.tab24 belfryref15_Sum.bits24 (fun HT_ HW_ => ?_)
                                    generalize wr.drew = w22 at HO_5 HB GG21 HQ24 hf21_0 hx108_0 hx21_0 hHeld ⊢
                                    refine pure_ (i := 0) (N := some 59) (v := ?_) (a' := ?_) #[true, false, false, false, false, false, false, false, false, false, false, false, false] rfl rfl (any_of HT_.out (by kernel_rfl)) (fun _ _ _ h => h) (Or.inl ⟨by rfl, ?_⟩) ?_ ?_
                                    rotate_left
                                    · intro w'
                                      go_simp
                                      with_reducible rfl
                                    rotate_left
                                    · simp only [Act.put, List.setIfInBounds_toArray, List.set_cons_zero, List.set_cons_succ, i64_w, i32_w]
                                      rfl
                                    refine pure_ (i := 1) (N := some 60) (v := ?_) (a' := ?_) #[true, true, false, false, false, false, false, false, false, false, false, false, false] rfl rfl (any_of HT_.out (by kernel_rfl)) (fun _ _ _ h => h) (Or.inl ⟨by rfl, ?_⟩) ?_ ?_
                                    rotate_left
                                    · intro w'
                                      go_simp
                                      with_reducible rfl
                                    rotate_left
                                    · simp only [Act.put, List.setIfInBounds_toArray, List.set_cons_zero, List.set_cons_succ, i64_w, i32_w]
                                      rfl
                                    refine pure_ (i := 2) (N := some 61) (v := ?_) (a' := ?_) #[true, true, true, false, false, false, false, false, false, false, false, false, false] rfl rfl (any_of HT_.out (by kernel_rfl)) (fun _ _ _ h => h) (Or.inl ⟨by rfl, ?_⟩) ?_ ?_
                                    rotate_left
                                    · intro w'
                                      go_simp
                                      with_reducible rfl
                                    rotate_left
                                    · simp only [Act.put, List.setIfInBounds_toArray, List.set_cons_zero, List.set_cons_succ, i64_w, i32_w]
                                      rfl
                                    refine pure_ (i := 3) (N := some 62) (v := ?_) (a' := ?_) #[true, true, true, true, false, false, false, false, false, false, false, false, false] rfl rfl (any_of HT_.out (by kernel_rfl)) (fun _ _ _ h => h) (Or.inl ⟨by rfl, ?_⟩) ?_ ?_
                                    rotate_left
                                    · intro w'
                                      go_simp
                                      with_reducible rfl
                                    rotate_left
                                    · simp only [Act.put, List.setIfInBounds_toArray, List.set_cons_zero, List.set_cons_succ, i64_w, i32_w]
                                      rfl
                                    refine pure_ (i := 4) (N := some 63) (v := ?_) (a' := ?_) #[true, true, true, true, true, false, false, false, false, false, false, false, false] rfl rfl (any_of HT_.out (by kernel_rfl)) (fun _ _ _ h => h) (Or.inl ⟨by rfl, ?_⟩) ?_ ?_
                                    rotate_left
                                    · intro w'
                                      go_simp
                                      with_reducible rfl
                                    rotate_left
                                    · simp only [Act.put, List.setIfInBounds_toArray, List.set_cons_zero, List.set_cons_succ, i64_w, i32_w]
                                      rfl
                                    refine pure_ (i := 6) (N := some 65) (v := ?_) (a' := ?_) #[true, true, true, true, true, false, true, false, false, false, false, false, false] rfl rfl (any_of HT_.out (by kernel_rfl)) (fun _ _ _ h => h) (Or.inl ⟨by rfl, ?_⟩) ?_ ?_
                                    rotate_left
                                    · intro w'
                                      go_simp
                                      with_reducible rfl
                                    rotate_left
                                    · simp only [Act.put, List.setIfInBounds_toArray, List.set_cons_zero, List.set_cons_succ, i64_w, i32_w]
                                      rfl
                                    refine pure_ (i := 7) (N := some 66) (v := ?_) (a' := ?_) #[true, true, true, true, true, false, true, true, false, false, false, false, false] rfl rfl (any_of HT_.out (by kernel_rfl)) (fun _ _ _ h => h) (Or.inl ⟨by rfl, ?_⟩) ?_ ?_
                                    rotate_left
                                    · intro w'
                                      go_simp
                                      with_reducible rfl
                                    rotate_left
                                    · simp only [Act.put, List.setIfInBounds_toArray, List.set_cons_zero, List.set_cons_succ, i64_w, i32_w]
                                      rfl
                                    refine pure_ (i := 8) (N := some 67) (v := ?_) (a' := ?_) #[true, true, true, true, true, false, true, true, true, false, false, false, false] rfl rfl (any_of HT_.out (by kernel_rfl)) (fun _ _ _ h => h) (Or.inl ⟨by rfl, ?_⟩) ?_ ?_
                                    rotate_left
                                    · intro w'
                                      go_simp
                                      with_reducible rfl
                                    rotate_left
                                    · simp only [Act.put, List.setIfInBounds_toArray, List.set_cons_zero, List.set_cons_succ, i64_w, i32_w]
                                      rfl
                                    refine take_ (i := 5) (N := some 64) (v := ?_) (a' := ?_) #[true, true, true, true, true, true, true, true, true, false, false, false, false] rfl rfl (take_ofW HT_.out HW_.out (by kernel_rfl)) (fun _ _ _ h => h) (Or.inl ⟨by rfl, ?_⟩) hHeld ?_ ?_
                                    rotate_left
                                    · intro w' s0
                                      go_simp
                                      with_reducible rfl
                                    rotate_left
                                    · simp only [Act.put, List.setIfInBounds_toArray, List.set_cons_zero, List.set_cons_succ, i64_w, i32_w]
                                      rfl
                                    refine pure_ (i := 9) (N := some 68) (v := ?_) (a' := ?_) #[true, true, true, true, true, true, true, true, true, true, false, false, false] rfl rfl (any_of HT_.out (by kernel_rfl)) (fun _ _ _ h => h) (Or.inl ⟨by rfl, ?_⟩) ?_ ?_
                                    rotate_left
                                    · intro w'
                                      go_simp
                                      with_reducible rfl
                                    rotate_left
                                    · simp only [Act.put, List.setIfInBounds_toArray, List.set_cons_zero, List.set_cons_succ, i64_w, i32_w]
                                      rfl
                                    refine pure_ (i := 10) (N := some 69) (v := ?_) (a' := ?_) #[true, true, true, true, true, true, true, true, true, true, true, false, false] rfl rfl (any_of HT_.out (by kernel_rfl)) (fun _ _ _ h => h) (Or.inl ⟨by rfl, ?_⟩) ?_ ?_
                                    rotate_left
                                    · intro w'
                                      go_simp
                                      with_reducible rfl
                                    rotate_left
                                    · simp only [Act.put, List.setIfInBounds_toArray, List.set_cons_zero, List.set_cons_succ, i64_w, i32_w]
                                      rfl
                                    refine pure_ (i := 11) (N := some 70) (v := ?_) (a' := ?_) #[true, true, true, true, true, true, true, true, true, true, true, true, false] rfl rfl (any_of HT_.out (by kernel_rfl)) (fun _ _ _ h => h) (Or.inl ⟨by rfl, ?_⟩) ?_ ?_
                                    rotate_left
                                    · intro w'
                                      go_simp
                                      with_reducible rfl
                                    rotate_left
                                    · simp only [Act.put, List.setIfInBounds_toArray, List.set_cons_zero, List.set_cons_succ, i64_w, i32_w]
                                      rfl
                                    refine last_ (i := 12) (N := none) #[true, true, true, true, true, true, true, true, true, true, true, true, true] rfl rfl (one_of HT_.out (by kernel_rfl)) (by decide) (fun K hK => ?_)
                                    refine skip_ (w1 := ?_) (by rfl) rfl ?_ ?_
                                    rotate_left
                                    · go_simp
                                      rfl
                                    refine hK.out _ _ ?_
                                    clear hK K
                                    refine done_ (done_of HT_.out (by kernel_rfl)) ?_
                                    try go_wp2
                                    go_roundg k5
                                    case measure => have := HJ2.out; have := HK2.out; have := HK3.out; have := HK4.out; have := HK5.out; omega
                                    case rel => exact ⟨(y109), (wrap64 (x9_4 + 1)), (by first | rfl | (simp; done) | (simp [*]; done)), H', ⟨by have := HJ2.out; have := HK2.out; have := HK3.out; have := HK4.out; have := HK5.out; omega⟩, ⟨by (with_reducible repeat (first | apply Kd.R_alloc | apply Kd.R_drewN | apply Kd.R_drew)); exact HQ24.out⟩, ⟨by repeat (first | (with_reducible first | exact HB.out | apply below_alloc | apply pw_below_drewN | apply below_drew1 | refine below_set ?_ GB21.out) | exact HB.out)⟩⟩
                                · rw [if_neg c19] at H
                                  exact absurd H (by simp)
                              · rw [if_neg c18] at H
                                exact absurd H (by simp)
                      · rw [if_neg c16] at H
                        have c16b0 : decide (x9_4 < 16) = false := decide_eq_false c16
                        clear c16
                        have H' := Aside0.mk H
                        clear H
                        go_wp2
                        go_loopg [12] k4 (fun kq v12 w' => ∃ (x5_5 : List Int) (x12_5 : Int), v12 = .int .i64 x12_5 ∧ Aside0 (belfryref15_Sum.l5 kq x5_5 x12_5 = some r) ∧ Aside0 (kq ≤ k4) ∧ Aside0 (Kd.R (Kd.int .i64) 3 w' w.heap.size (fun _ => True) u5 x5_5) ∧ Aside0 (Below w.heap.size w w'))
                        case atStart => exact ⟨(x5_4), (0), (by first | rfl | (simp; done) | (simp [*]; done)), H', ⟨Nat.le_refl _⟩, ⟨by (with_reducible repeat (first | apply Kd.R_alloc | apply Kd.R_drewN | apply Kd.R_drew)); exact HO_5.out⟩, ⟨by repeat (first | (with_reducible first | exact HB.out | apply below_alloc | apply pw_below_drewN | apply below_drew1) | exact HB.out)⟩⟩
                        case round =>
                          clear H'
                          try clear c1
                          try clear p1
                          try clear q1
                          try clear hx1
                          try clear c2
                          try clear p2
                          try clear q2
                          try clear hx2
                          try clear hf2
                          try clear c4
                          try clear c4b0
                          try clear c5
                          try clear c5b0
                          try clear c6
                          try clear c6b0
                          try clear p6
                          try clear c7
                          try clear c7b0
                          try clear c8
                          try clear c8b0
                          try clear p9
                          try clear q9
                          try clear hx9
                          try clear c10
                          try clear c10b0
                          try clear c10b1
                          try clear p10
                          try clear q10
                          try clear hx10
                          try clear c11
                          try clear c13
                          try clear c13b0
                          try clear c14
                          try clear c16
                          try clear c16b0
                          try clear c17
                          try clear c17b0
                          try clear c18
                          try clear c18b0
                          try clear c19
                          try clear c19b0
                          try clear c20
                          try clear c20b0
                          try clear c20b1
                          try clear p21
                          try clear q21
                          try clear hx21
                          try clear hf21
                          try clear hx108_0
                          try clear hx21_0
                          try clear p108
                          try clear p2
                          try clear p21
                          try clear p6
                          try clear p9
                          try clear q108
                          try clear q21
                          try clear q9
                          obtain ⟨x5_5, x12_5, rfl, HA, HK5, HO_5, HB⟩ := hrel
                          cases gk with
                          | zero => exact absurd HA.out (by simp [belfryref15_Sum.l5])
                          | succ k5 =>
                            have H := HA.out
                            clear HA
                            simp only [belfryref15_Sum.l5] at H
                            by_cases c25 : (wrap64 (x12_5 + 16)) < (x5_5.length : Int)
                            · rw [if_pos c25] at H
                              have c25b0 : decide ((wrap64 (x12_5 + 16)) < (x5_5.length : Int)) = true := decide_eq_true c25
                              clear c25
                              by_cases c26 : 0 ≤ x12_5
                              · rw [if_pos c26] at H
                                have c26b0 : decide (0 ≤ x12_5) = true := decide_eq_true c26
                                clear c26
                                by_cases c27 : x12_5 < (x5_5.length : Int)
                                · rw [if_pos c27] at H
                                  have c27b0 : decide (x12_5 < (x5_5.length : Int)) = true := decide_eq_true c27
                                  clear c27
                                  by_cases c28 : (rd x5_5 x12_5) = 1
                                  · rw [if_pos c28] at H
                                    have c28b0 : ((rd x5_5 x12_5) == 1) = true := beq_iff_eq.mpr c28
                                    have c28b1 : ((rd x5_5 x12_5) != 1) = false := bne_eq_false_iff_eq.mpr c28
                                    clear c28
                                    obtain ⟨y111, hy111⟩ : ∃ y_ : List Int, y_ = (x5_5.set (x12_5 : Int).toNat 0) := ⟨_, rfl⟩
                                    replace H : (if 0 ≤ (wrap64 (x12_5 + 4)) then (if (wrap64 (x12_5 + 4)) < (x5_5.length : Int) then ((some (y111.set ((wrap64 (x12_5 + 4)) : Int).toNat (wrap64 (1 - (rd y111 (wrap64 (x12_5 + 4))))) : List Int)).bind fun y113 => (if 0 ≤ (wrap64 (x12_5 + 11)) then (if (wrap64 (x12_5 + 11)) < (x5_5.length : Int) then ((some (y113.set ((wrap64 (x12_5 + 11)) : Int).toNat (wrap64 (1 - (rd y113 (wrap64 (x12_5 + 11))))) : List Int)).bind fun y115 => (if 0 ≤ (wrap64 (x12_5 + 16)) then (belfryref15_Sum.l5 k5 (y115.set ((wrap64 (x12_5 + 16)) : Int).toNat (wrap64 (1 - (rd y115 (wrap64 (x12_5 + 16)))))) (wrap64 (x12_5 + 1))) else (none))) else (none)) else (none))) else (none)) else (none)) = some r := by first | (rw [hy111]; with_reducible exact H) | (have H2_ := (Option.bind_some _ _).symm.trans H; rw [hy111]; with_reducible exact H2_) | (have H2_ := (Option.bind_some _ _).symm.trans H; with_reducible exact H2_) | with_reducible exact H | (rw [hy111]; exact H) | exact H
                                    have Ny111 := Aside0.mk hy111
                                    clear hy111
                                    obtain ⟨ji30, hji30⟩ : ∃ j_ : Int, (wrap64 (x12_5 + 4)) = j_ := ⟨_, rfl⟩
                                    replace H : (if 0 ≤ (ji30) then (if (ji30) < (x5_5.length : Int) then ((some (y111.set ((ji30) : Int).toNat (wrap64 (1 - (rd y111 (ji30)))) : List Int)).bind fun y113 => (if 0 ≤ (wrap64 (x12_5 + 11)) then (if (wrap64 (x12_5 + 11)) < (x5_5.length : Int) then ((some (y113.set ((wrap64 (x12_5 + 11)) : Int).toNat (wrap64 (1 - (rd y113 (wrap64 (x12_5 + 11))))) : List Int)).bind fun y115 => (if 0 ≤ (wrap64 (x12_5 + 16)) then (belfryref15_Sum.l5 k5 (y115.set ((wrap64 (x12_5 + 16)) : Int).toNat (wrap64 (1 - (rd y115 (wrap64 (x12_5 + 16)))))) (wrap64 (x12_5 + 1))) else (none))) else (none)) else (none))) else (none)) else (none)) = some r := by first | (rw [hji30] at H; exact H) | (simp only [hji30] at H ⊢; exact H)
                                    have hji30w : (IntKind.i64.wrap (x12_5 + 4)) = ji30 := (i64_w _).trans hji30
                                    by_cases c31 : 0 ≤ (ji30)
                                    · rw [if_pos c31] at H
                                      have c31b0 : decide (0 ≤ (ji30)) = true := decide_eq_true c31
                                      clear c31
                                      by_cases c32 : (ji30) < (x5_5.length : Int)
                                      · rw [if_pos c32] at H
                                        have c32b0 : decide ((ji30) < (x5_5.length : Int)) = true := decide_eq_true c32
                                        clear c32
                                        obtain ⟨y113, hy113⟩ : ∃ y_ : List Int, y_ = (y111.set ((ji30) : Int).toNat (wrap64 (1 - (rd y111 (ji30))))) := ⟨_, rfl⟩
                                        replace H : (if 0 ≤ (wrap64 (x12_5 + 11)) then (if (wrap64 (x12_5 + 11)) < (x5_5.length : Int) then ((some (y113.set ((wrap64 (x12_5 + 11)) : Int).toNat (wrap64 (1 - (rd y113 (wrap64 (x12_5 + 11))))) : List Int)).bind fun y115 => (if 0 ≤ (wrap64 (x12_5 + 16)) then (belfryref15_Sum.l5 k5 (y115.set ((wrap64 (x12_5 + 16)) : Int).toNat (wrap64 (1 - (rd y115 (wrap64 (x12_5 + 16)))))) (wrap64 (x12_5 + 1))) else (none))) else (none)) else (none)) = some r := by first | (rw [hy113]; with_reducible exact H) | (have H2_ := (Option.bind_some _ _).symm.trans H; rw [hy113]; with_reducible exact H2_) | (have H2_ := (Option.bind_some _ _).symm.trans H; with_reducible exact H2_) | with_reducible exact H | (rw [hy113]; exact H) | exact H
                                        have Ny113 := Aside0.mk hy113
                                        clear hy113
                                        obtain ⟨ji34, hji34⟩ : ∃ j_ : Int, (wrap64 (x12_5 + 11)) = j_ := ⟨_, rfl⟩
                                        replace H : (if 0 ≤ (ji34) then (if (ji34) < (x5_5.length : Int) then ((some (y113.set ((ji34) : Int).toNat (wrap64 (1 - (rd y113 (ji34)))) : List Int)).bind fun y115 => (if 0 ≤ (wrap64 (x12_5 + 16)) then (belfryref15_Sum.l5 k5 (y115.set ((wrap64 (x12_5 + 16)) : Int).toNat (wrap64 (1 - (rd y115 (wrap64 (x12_5 + 16)))))) (wrap64 (x12_5 + 1))) else (none))) else (none)) else (none)) = some r := by first | (rw [hji34] at H; exact H) | (simp only [hji34] at H ⊢; exact H)
                                        have hji34w : (IntKind.i64.wrap (x12_5 + 11)) = ji34 := (i64_w _).trans hji34
                                        by_cases c35 : 0 ≤ (ji34)
                                        · rw [if_pos c35] at H
                                          have c35b0 : decide (0 ≤ (ji34)) = true := decide_eq_true c35
                                          clear c35
                                          by_cases c36 : (ji34) < (x5_5.length : Int)
                                          · rw [if_pos c36] at H
                                            have c36b0 : decide ((ji34) < (x5_5.length : Int)) = true := decide_eq_true c36
                                            clear c36
                                            obtain ⟨y115, hy115⟩ : ∃ y_ : List Int, y_ = (y113.set ((ji34) : Int).toNat (wrap64 (1 - (rd y113 (ji34))))) := ⟨_, rfl⟩
                                            replace H : (if 0 ≤ (wrap64 (x12_5 + 16)) then (belfryref15_Sum.l5 k5 (y115.set ((wrap64 (x12_5 + 16)) : Int).toNat (wrap64 (1 - (rd y115 (wrap64 (x12_5 + 16)))))) (wrap64 (x12_5 + 1))) else (none)) = some r := by first | (rw [hy115]; with_reducible exact H) | (have H2_ := (Option.bind_some _ _).symm.trans H; rw [hy115]; with_reducible exact H2_) | (have H2_ := (Option.bind_some _ _).symm.trans H; with_reducible exact H2_) | with_reducible exact H | (rw [hy115]; exact H) | exact H
                                            have Ny115 := Aside0.mk hy115
                                            clear hy115
                                            obtain ⟨ji38, hji38⟩ : ∃ j_ : Int, (wrap64 (x12_5 + 16)) = j_ := ⟨_, rfl⟩
                                            replace H : (if 0 ≤ (ji38) then (belfryref15_Sum.l5 k5 (y115.set ((ji38) : Int).toNat (wrap64 (1 - (rd y115 (ji38))))) (wrap64 (x12_5 + 1))) else (none)) = some r := by first | (rw [hji38] at H; exact H) | (simp only [hji38] at H ⊢; exact H)
                                            (try rw [hji38] at c25b0)
                                            have hji38w : (IntKind.i64.wrap (x12_5 + 16)) = ji38 := (i64_w _).trans hji38
                                            by_cases c39 : 0 ≤ (ji38)
                                            · rw [if_pos c39] at H
                                              have c39b0 : decide (0 ≤ (ji38)) = true := decide_eq_true c39
                                              clear c39
                                              obtain ⟨y117, hy117⟩ : ∃ y_ : List Int, y_ = (y115.set ((ji38) : Int).toNat (wrap64 (1 - (rd y115 (ji38))))) := ⟨_, rfl⟩
                                              replace H : (belfryref15_Sum.l5 k5 y117 (wrap64 (x12_5 + 1))) = some r := by first | (rw [hy117]; with_reducible exact H) | (have H2_ := (Option.bind_some _ _).symm.trans H; rw [hy117]; with_reducible exact H2_) | (have H2_ := (Option.bind_some _ _).symm.trans H; with_reducible exact H2_) | with_reducible exact H | (rw [hy117]; exact H) | exact H
                                              have Ny117 := Aside0.mk hy117
                                              clear hy117
                                              have H' := Aside0.mk H
                                              clear H
                                              obtain ⟨Ao41, co41, eo41⟩ := Kd.R_slice HO_5.out
                                              subst eo41
                                              have p110 : 0 ≤ (x12_5 : Int) := of_decide_eq_true (by first | (with_reducible assumption) | assumption)
                                              have q110 : x12_5 < (x5_5.length : Int) := of_decide_eq_true (by first | (with_reducible assumption) | assumption)
                                              obtain ⟨ad110, e110, hx110_0⟩ := Kd.at_int (Kd.R_reads' HO_5.out).2.2 x12_5 p110 q110
                                              cases e110
                                              replace p110 := eq_true p110
                                              replace q110 := eq_true q110
                                              have p29 : 0 ≤ (x12_5 : Int) := of_decide_eq_true (by first | (with_reducible assumption) | assumption)
                                              have q29 : (x12_5 : Int) < ((x5_5.length : Int) : Int) := of_decide_eq_true (by first | (with_reducible assumption) | assumption)
                                              obtain ⟨go29, co29, eo29, gb29, gl29, cl29, HG29⟩ := Kd.R_form HO_5.out (by omega)
                                              (first | cases eo29 | (injection eo29 with ea_ en_ ec_; (first | subst ea_ | (injection ea_ with ea_; subst ea_)); subst ec_; clear en_))
                                              have GB29 := Aside0.mk gb29
                                              have GG29 := Aside0.mk HG29
                                              clear gb29 gl29 HG29
                                              (first | simp only [add_plain] at hx110_0 | skip)
                                              obtain ⟨hx29_0, hf29_0⟩ := Kd.R_celln 0 HO_5.out (x12_5 : Int) p29 q29
                                              replace p29 := eq_true p29
                                              replace q29 := eq_true q29
                                              have HP42 := Kd.R_putg HO_5.out (x12_5 : Int) 0
                                              go_wp2_with (first | ((with_reducible refine gate_store (t := 3) (p := 85) rfl ?_); refine store_event (t := 3) (p := 85) (v := ?vo_w43) (w1 := (wr.setCell ⟨go29, (x12_5 : Int).toNat, none⟩ (.int .i64 0))) ?hg ?ho ?hn ?hr ?_; (case ho => rfl); (case hg => rfl); (case hn => rfl); (case hr => first | (go_simp; done) | (go_simp; rfl)); intro w43 hw; have hg : wr.grownBy w43 (some go29) := (by rw [hw]; exact HP42.2); have hp_ : Kd.R (Kd.int .i64) 3 w43 w.heap.size (fun _ => True) (.slice (some ⟨go29, 0, none⟩) x5_5.length co41) y111 := (by rw [hw, Ny111.out]; exact HP42.1); clear HP42; have n0_ := Aside0.mk (hp_); have n1_ := Aside0.mk ((by rw [hw]; exact below_set (HB.out) GB29.out : Below w.heap.size w w43)); clear HO_5; clear HB; have HO_5 := n0_; have HB := n1_; clear n0_ n1_; clear hg hw hp_; have p112 : 0 ≤ ((ji30) : Int) := of_decide_eq_true (by first | (with_reducible assumption) | assumption); have q112 : (ji30) < (y111.length : Int) := (by have h_ : ((ji30) : Int) < ((x5_5.length : Int) : Int) := of_decide_eq_true (by first | (with_reducible assumption) | assumption); first | (have e_ := (Kd.R_reads' HO_5.out).1; omega) | simpa only [Ny111.out, List.length_set] using h_); have ql112 : (((ji30) : Int) < ((x5_5.length : Int) : Int)) = True := eq_true (of_decide_eq_true (by first | (with_reducible assumption) | assumption)); obtain ⟨ad112, e112, hx112_0⟩ := Kd.at_int (Kd.R_reads' HO_5.out).2.2 (ji30) p112 q112; obtain rfl : (⟨go29, 0, none⟩ : Addr) = ad112 := (by injection e112); (first | simp only [add_plain] at hx112_0 | simp only [add_at] at hx112_0 | simp only [Addr.add, Nat.zero_add] at hx112_0 | skip); replace p112 := eq_true p112; replace q112 := eq_true q112; have p33 : 0 ≤ ((ji30) : Int) := of_decide_eq_true (by first | (with_reducible assumption) | assumption); have q33 : ((ji30) : Int) < ((x5_5.length : Int) : Int) := of_decide_eq_true (by first | (with_reducible assumption) | assumption); obtain ⟨hx33_0, hf33_0⟩ := Kd.R_celln 0 HO_5.out ((ji30) : Int) p33 q33; replace p33 := eq_true p33; replace q33 := eq_true q33; obtain ⟨hy44_, hz44_⟩ := Kd.R_celln 0 HO_5.out ((ji30) : Int) (of_decide_eq_true (by first | (with_reducible assumption) | assumption)) (of_decide_eq_true (by first | (with_reducible assumption) | assumption)); have HP44 := Kd.R_putg HO_5.out ((ji30) : Int) (wrap64 (1 - (rd y111 (ji30))))) | ((with_reducible refine gate_store (t := 3) (p := 95) rfl ?_); refine store_event (t := 3) (p := 95) (v := ?vo_w45) (w1 := (w43.setCell ⟨go29, ((ji30) : Int).toNat, none⟩ (.int .i64 (wrap64 (1 - (rd y111 (ji30))))))) ?hg ?ho ?hn ?hr ?_; (case ho => rfl); (case hg => rfl); (case hn => rfl); (case hr => first | (go_simp; done) | (go_simp; rfl)); intro w45 hw; have hg : w43.grownBy w45 (some go29) := (by rw [hw]; exact HP44.2); have hp_ : Kd.R (Kd.int .i64) 3 w45 w.heap.size (fun _ => True) (.slice (some ⟨go29, 0, none⟩) x5_5.length co41) y113 := (by rw [hw, Ny113.out]; exact HP44.1); clear HP44; have n0_ := Aside0.mk (hp_); have n1_ := Aside0.mk ((by rw [hw]; exact below_set (HB.out) GB29.out : Below w.heap.size w w45)); clear HO_5; clear HB; have HO_5 := n0_; have HB := n1_; clear n0_ n1_; clear hg hw hp_; have p114 : 0 ≤ ((ji34) : Int) := of_decide_eq_true (by first | (with_reducible assumption) | assumption); have q114 : (ji34) < (y113.length : Int) := (by have h_ : ((ji34) : Int) < ((x5_5.length : Int) : Int) := of_decide_eq_true (by first | (with_reducible assumption) | assumption); first | (have e_ := (Kd.R_reads' HO_5.out).1; omega) | simpa only [Ny111.out, Ny113.out, List.length_set] using h_); have ql114 : (((ji34) : Int) < ((x5_5.length : Int) : Int)) = True := eq_true (of_decide_eq_true (by first | (with_reducible assumption) | assumption)); obtain ⟨ad114, e114, hx114_0⟩ := Kd.at_int (Kd.R_reads' HO_5.out).2.2 (ji34) p114 q114; obtain rfl : (⟨go29, 0, none⟩ : Addr) = ad114 := (by injection e114); (first | simp only [add_plain] at hx114_0 | simp only [add_at] at hx114_0 | simp only [Addr.add, Nat.zero_add] at hx114_0 | skip); replace p114 := eq_true p114; replace q114 := eq_true q114; have p37 : 0 ≤ ((ji34) : Int) := of_decide_eq_true (by first | (with_reducible assumption) | assumption); have q37 : ((ji34) : Int) < ((x5_5.length : Int) : Int) := of_decide_eq_true (by first | (with_reducible assumption) | assumption); obtain ⟨hx37_0, hf37_0⟩ := Kd.R_celln 0 HO_5.out ((ji34) : Int) p37 q37; replace p37 := eq_true p37; replace q37 := eq_true q37; obtain ⟨hy46_, hz46_⟩ := Kd.R_celln 0 HO_5.out ((ji34) : Int) (of_decide_eq_true (by first | (with_reducible assumption) | assumption)) (of_decide_eq_true (by first | (with_reducible assumption) | assumption)); have HP46 := Kd.R_putg HO_5.out ((ji34) : Int) (wrap64 (1 - (rd y113 (ji34))))) | ((with_reducible refine gate_store (t := 3) (p := 105) rfl ?_); refine store_event (t := 3) (p := 105) (v := ?vo_w47) (w1 := (w45.setCell ⟨go29, ((ji34) : Int).toNat, none⟩ (.int .i64 (wrap64 (1 - (rd y113 (ji34))))))) ?hg ?ho ?hn ?hr ?_; (case ho => rfl); (case hg => rfl); (case hn => rfl); (case hr => first | (go_simp; done) | (go_simp; rfl)); intro w47 hw; have hg : w45.grownBy w47 (some go29) := (by rw [hw]; exact HP46.2); have hp_ : Kd.R (Kd.int .i64) 3 w47 w.heap.size (fun _ => True) (.slice (some ⟨go29, 0, none⟩) x5_5.length co41) y115 := (by rw [hw, Ny115.out]; exact HP46.1); clear HP46; have n0_ := Aside0.mk (hp_); have n1_ := Aside0.mk ((by rw [hw]; exact below_set (HB.out) GB29.out : Below w.heap.size w w47)); clear HO_5; clear HB; have HO_5 := n0_; have HB := n1_; clear n0_ n1_; clear hg hw hp_; have p116 : 0 ≤ ((ji38) : Int) := of_decide_eq_true (by first | (with_reducible assumption) | assumption); have q116 : (ji38) < (y115.length : Int) := (by have h_ : ((ji38) : Int) < ((x5_5.length : Int) : Int) := of_decide_eq_true (by first | (with_reducible assumption) | assumption); first | (have e_ := (Kd.R_reads' HO_5.out).1; omega) | simpa only [Ny111.out, Ny113.out, Ny115.out, List.length_set] using h_); have ql116 : (((ji38) : Int) < ((x5_5.length : Int) : Int)) = True := eq_true (of_decide_eq_true (by first | (with_reducible assumption) | assumption)); obtain ⟨ad116, e116, hx116_0⟩ := Kd.at_int (Kd.R_reads' HO_5.out).2.2 (ji38) p116 q116; obtain rfl : (⟨go29, 0, none⟩ : Addr) = ad116 := (by injection e116); (first | simp only [add_plain] at hx116_0 | simp only [add_at] at hx116_0 | simp only [Addr.add, Nat.zero_add] at hx116_0 | skip); replace p116 := eq_true p116; replace q116 := eq_true q116; have p40 : 0 ≤ ((ji38) : Int) := of_decide_eq_true (by first | (with_reducible assumption) | assumption); have q40 : ((ji38) : Int) < ((x5_5.length : Int) : Int) := of_decide_eq_true (by first | (with_reducible assumption) | assumption); obtain ⟨hx40_0, hf40_0⟩ := Kd.R_celln 0 HO_5.out ((ji38) : Int) p40 q40; replace p40 := eq_true p40; replace q40 := eq_true q40; obtain ⟨hy48_, hz48_⟩ := Kd.R_celln 0 HO_5.out ((ji38) : Int) (of_decide_eq_true (by first | (with_reducible assumption) | assumption)) (of_decide_eq_true (by first | (with_reducible assumption) | assumption)); have HP48 := Kd.R_putg HO_5.out ((ji38) : Int) (wrap64 (1 - (rd y115 (ji38))))) | ((with_reducible refine gate_store (t := 3) (p := 115) rfl ?_); refine store_event (t := 3) (p := 115) (v := ?vo_w49) (w1 := (w47.setCell ⟨go29, ((ji38) : Int).toNat, none⟩ (.int .i64 (wrap64 (1 - (rd y115 (ji38))))))) ?hg ?ho ?hn ?hr ?_; (case ho => rfl); (case hg => rfl); (case hn => rfl); (case hr => first | (go_simp; done) | (go_simp; rfl)); intro w49 hw; have hg : w47.grownBy w49 (some go29) := (by rw [hw]; exact HP48.2); have hp_ : Kd.R (Kd.int .i64) 3 w49 w.heap.size (fun _ => True) (.slice (some ⟨go29, 0, none⟩) x5_5.length co41) y117 := (by rw [hw, Ny117.out]; exact HP48.1); clear HP48; have n0_ := Aside0.mk (hp_); have n1_ := Aside0.mk ((by rw [hw]; exact below_set (HB.out) GB29.out : Below w.heap.size w w49)); clear HO_5; clear HB; have HO_5 := n0_; have HB := n1_; clear n0_ n1_; clear hg hw hp_))
                                              go_roundg k5
                                              case measure => have := HJ2.out; have := HK2.out; have := HK3.out; have := HK4.out; have := HK5.out; omega
                                              case rel => exact ⟨(y117), (wrap64 (x12_5 + 1)), (by first | rfl | (simp; done) | (simp [*]; done)), H', ⟨by have := HJ2.out; have := HK2.out; have := HK3.out; have := HK4.out; have := HK5.out; omega⟩, ⟨by (with_reducible repeat (first | apply Kd.R_alloc | apply Kd.R_drewN | apply Kd.R_drew)); exact HO_5.out⟩, ⟨by repeat (first | (with_reducible first | exact HB.out | apply below_alloc | apply pw_below_drewN | apply below_drew1) | exact HB.out)⟩⟩
                                            · rw [if_neg c39] at H
                                              exact absurd H (by simp)
                                          · rw [if_neg c36] at H
                                            exact absurd H (by simp)
                                        · rw [if_neg c35] at H
                                          exact absurd H (by simp)
                                      · rw [if_neg c32] at H
                                        exact absurd H (by simp)
                                    · rw [if_neg c31] at H
                                      exact absurd H (by simp)
                                  · rw [if_neg c28] at H
                                    have c28b0 : ((rd x5_5 x12_5) == 1) = false := beq_eq_false_iff_ne.mpr c28
                                    have c28b1 : ((rd x5_5 x12_5) != 1) = true := bne_iff_ne.mpr c28
                                    have H' := Aside0.mk H
                                    clear H
                                    obtain ⟨Ao50, co50, eo50⟩ := Kd.R_slice HO_5.out
                                    subst eo50
                                    have p110 : 0 ≤ (x12_5 : Int) := of_decide_eq_true (by first | (with_reducible assumption) | assumption)
                                    have q110 : x12_5 < (x5_5.length : Int) := of_decide_eq_true (by first | (with_reducible assumption) | assumption)
                                    obtain ⟨ad110, e110, hx110_0⟩ := Kd.at_int (Kd.R_reads' HO_5.out).2.2 x12_5 p110 q110
                                    cases e110
                                    replace p110 := eq_true p110
                                    replace q110 := eq_true q110
                                    go_wp2
                                    go_roundg k5
                                    case measure => have := HJ2.out; have := HK2.out; have := HK3.out; have := HK4.out; have := HK5.out; omega
                                    case rel => exact ⟨(x5_5), (wrap64 (x12_5 + 1)), (by first | rfl | (simp; done) | (simp [*]; done)), H', ⟨by have := HJ2.out; have := HK2.out; have := HK3.out; have := HK4.out; have := HK5.out; omega⟩, ⟨by (with_reducible repeat (first | apply Kd.R_alloc | apply Kd.R_drewN | apply Kd.R_drew)); exact HO_5.out⟩, ⟨by repeat (first | (with_reducible first | exact HB.out | apply below_alloc | apply pw_below_drewN | apply below_drew1) | exact HB.out)⟩⟩
                                · rw [if_neg c27] at H
                                  exact absurd H (by simp)
                              · rw [if_neg c26] at H
                                exact absurd H (by simp)
                            · rw [if_neg c25] at H
                              have c25b0 : decide ((wrap64 (x12_5 + 16)) < (x5_5.length : Int)) = false := decide_eq_false c25
                              clear c25
                              have H' := Aside0.mk H
                              clear H
                              obtain ⟨Ao51, co51, eo51⟩ := Kd.R_slice HO_5.out
                              subst eo51
                              go_wp2
                              go_loopg [13, 14] k5 (fun kq v13 v14 w' => ∃ (x13_6 : Int) (x14_6 : Int), v13 = .int .i64 x13_6 ∧ v14 = .int .i64 x14_6 ∧ Aside0 (belfryref15_Sum.l6 kq x5_5 x13_6 x14_6 = some r) ∧ Aside0 (kq ≤ k5) ∧ Aside0 (Kd.R (Kd.int .i64) 3 w' w.heap.size (fun _ => True) (.slice Ao51 x5_5.length co51) x5_5) ∧ Aside0 (Below w.heap.size w w'))
                              case atStart => exact ⟨(0), (wrap64 ((x5_5.length : Int) - 16)), (by first | rfl | (simp; done) | (simp [*]; done)), (by first | rfl | (simp; done) | (simp [*]; done)), H', ⟨Nat.le_refl _⟩, ⟨by (with_reducible repeat (first | apply Kd.R_alloc | apply Kd.R_drewN | apply Kd.R_drew)); exact HO_5.out⟩, ⟨by repeat (first | (with_reducible first | exact HB.out | apply below_alloc | apply pw_below_drewN | apply below_drew1) | exact HB.out)⟩⟩
                              case round =>
                                clear H'
                                try clear c1
                                try clear p1
                                try clear q1
                                try clear hx1
                                try clear c2
                                try clear p2
                                try clear q2
                                try clear hx2
                                try clear hf2
                                try clear c3
                                try clear p3
                                try clear q3
                                try clear hx3
                                try clear hf3
                                try clear c4
                                try clear c4b0
                                try clear p4
                                try clear q4
                                try clear hx4
                                try clear hf4
                                try clear c5
                                try clear c5b0
                                try clear c6
                                try clear c6b0
                                try clear p6
                                try clear c7
                                try clear c7b0
                                try clear c8
                                try clear c8b0
                                try clear p9
                                try clear q9
                                try clear hx9
                                try clear c10
                                try clear c10b0
                                try clear c10b1
                                try clear p10
                                try clear q10
                                try clear hx10
                                try clear c11
                                try clear p11
                                try clear q11
                                try clear hx11
                                try clear c13
                                try clear c13b0
                                try clear c14
                                try clear c16
                                try clear c16b0
                                try clear c17
                                try clear c17b0
                                try clear c18
                                try clear c18b0
                                try clear c19
                                try clear c19b0
                                try clear c20
                                try clear c20b0
                                try clear c20b1
                                try clear p21
                                try clear q21
                                try clear hx21
                                try clear hf21
                                try clear c25
                                try clear c25b0
                                try clear c26
                                try clear c26b0
                                try clear c27
                                try clear c27b0
                                try clear c28
                                try clear c28b0
                                try clear c28b1
                                try clear p29
                                try clear q29
                                try clear hx29
                                try clear hf29
                                try clear c31
                                try clear c31b0
                                try clear c32
                                try clear c32b0
                                try clear p33
                                try clear q33
                                try clear hx33
                                try clear hf33
                                try clear c35
                                try clear c35b0
                                try clear c36
                                try clear c36b0
                                try clear p37
                                try clear q37
                                try clear hx37
                                try clear hf37
                                try clear c39
                                try clear c39b0
                                try clear p40
                                try clear q40
                                try clear hx40
                                try clear hf40
                                try clear hx108_0
                                try clear hx110_0
                                try clear hx112_0
                                try clear hx114_0
                                try clear hx116_0
                                try clear hx21_0
                                try clear hx29_0
                                try clear hx33_0
                                try clear hx37_0
                                try clear hx40_0
                                try clear p1
                                try clear p10
                                try clear p108
                                try clear p110
                                try clear p112
                                try clear p114
                                try clear p116
                                try clear p2
                                try clear p21
                                try clear p29
                                try clear p33
                                try clear p37
                                try clear p40
                                try clear p6
                                try clear p9
                                try clear q1
                                try clear q10
                                try clear q108
                                try clear q110
                                try clear q112
                                try clear q114
                                try clear q116
                                try clear q2
                                try clear q21
                                try clear q29
                                try clear q33
                                try clear q37
                                try clear q40
                                try clear q9
                                obtain ⟨x13_6, x14_6, rfl, rfl, HA, HK6, HO_5, HB⟩ := hrel
                                cases gk with
                                | zero => exact absurd HA.out (by simp [belfryref15_Sum.l6])
                                | succ k6 =>
                                  have H := HA.out
                                  clear HA
                                  simp only [belfryref15_Sum.l6] at H
                                  by_cases c52 : x14_6 < (x5_5.length : Int)
                                  · rw [if_pos c52] at H
                                    have c52b0 : decide (x14_6 < (x5_5.length : Int)) = true := decide_eq_true c52
                                    clear c52
                                    by_cases c53 : 0 ≤ x14_6
                                    · rw [if_pos c53] at H
                                      have c53b0 : decide (0 ≤ x14_6) = true := decide_eq_true c53
                                      clear c53
                                      have H' := Aside0.mk H
                                      clear H
                                      have p118 : 0 ≤ (x14_6 : Int) := of_decide_eq_true (by first | (with_reducible assumption) | assumption)
                                      have q118 : x14_6 < (x5_5.length : Int) := of_decide_eq_true (by first | (with_reducible assumption) | assumption)
                                      obtain ⟨ad118, e118, hx118_0⟩ := Kd.at_int (Kd.R_reads' HO_5.out).2.2 x14_6 p118 q118
                                      cases e118
                                      replace p118 := eq_true p118
                                      replace q118 := eq_true q118
                                      go_wp2
                                      go_roundg k6
                                      case measure => have := HJ2.out; have := HK2.out; have := HK3.out; have := HK4.out; have := HK5.out; have := HK6.out; omega
                                      case rel => exact ⟨(wrap64 ((wrap64 (2 * x13_6)) + (rd x5_5 x14_6))), (wrap64 (x14_6 + 1)), (by first | rfl | (simp; done) | (simp [*]; done)), (by first | rfl | (simp; done) | (simp [*]; done)), H', ⟨by have := HJ2.out; have := HK2.out; have := HK3.out; have := HK4.out; have := HK5.out; have := HK6.out; omega⟩, ⟨by (with_reducible repeat (first | apply Kd.R_alloc | apply Kd.R_drewN | apply Kd.R_drew)); exact HO_5.out⟩, ⟨by repeat (first | (with_reducible first | exact HB.out | apply below_alloc | apply pw_below_drewN | apply below_drew1) | exact HB.out)⟩⟩
                                    · rw [if_neg c53] at H
                                      exact absurd H (by simp)
                                  · rw [if_neg c52] at H
                                    have c52b0 : decide (x14_6 < (x5_5.length : Int)) = false := decide_eq_false c52
                                    clear c52
                                    obtain rfl := Option.some.inj H
                                    go_wp2
                                    go_ret
                                    exact ⟨by first | rfl | (simp [errW_none, errW_some] <;> rfl) | (simp [*, errW_none, errW_some] <;> rfl), by repeat (first | (with_reducible first | exact HB.out | apply below_alloc | apply pw_below_drewN | apply below_drew1) | exact HB.out)⟩

end Go.Proofs.Ythhfogpkaeminaa.PCrcPlays
