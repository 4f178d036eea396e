/- The document's side of sip, and the law's helper: Round, back, Left, Word. -/
import Derived.Test.YthmiomncgkmnoaaDoorSipSum
import Derived.Laws.Rows
import Derived.Deep.Cut
set_option linter.unusedVariables false
set_option linter.unusedSimpArgs false
namespace Go.Proofs.YthmiomncgkmnoaaDoor
open Go.RowKit Go.Sort Sip
set_option maxRecDepth 100000 in
theorem roundV_is (v : Four) (hv : v.Ok) (w : World) : Calls Tryd.prog 21 #[.agg (cells4 v)] w fun e w' => e = .returned (.agg (cells4 (round v))) ∧ Below w.heap.size w w' := by
  have HV := Lib.hid hv
  clear hv
  obtain ⟨a, b, c, d⟩ := v
  show Calls Tryd.prog 21 #[.agg #[.int .u64 a, .int .u64 b, .int .u64 c, .int .u64 d]] w _
  go_enter Tryd.func21, Tryd.ntmps21
  go_wp2_with fail
  have hs : St ((((w.alloc (.cells #[.int .u64 a, .int .u64 b, .int .u64 c, .int .u64 d] 35)).alloc (.cells #[.int .u64 0, .int .u64 0, .int .u64 0, .int .u64 0] 35))).alloc (.cells #[.int .u64 a, .int .u64 b, .int .u64 c, .int .u64 d] 58)) (w.heap.size + 1 + 1) ⟨a, b, c, d⟩ := by
    have := heap_alloc_new ((w.alloc (.cells #[.int .u64 a, .int .u64 b, .int .u64 c, .int .u64 d] 35)).alloc (.cells #[.int .u64 0, .int .u64 0, .int .u64 0, .int .u64 0] 35)) (.cells #[.int .u64 a, .int .u64 b, .int .u64 c, .int .u64 d] 58)
    rw [World.size_alloc, World.size_alloc] at this
    exact this
  have HS := Lib.hid hs
  clear hs
  (with_reducible refine (round_is _ _ _ HV.out HS.out).mono ?_); rintro e w1 ⟨rfl, h1, k1⟩
  have hb1 : w1.heap[w.heap.size + 1]? = some (.cells #[.int .u64 0, .int .u64 0, .int .u64 0, .int .u64 0] 35 (0, 0)) := by
    rw [k1.block (w.heap.size + 1) (by simp) (by simp)]
    rw [Go.heap_alloc_old _ _ (by simp)]
    have := heap_alloc_new (w.alloc (.cells #[.int .u64 a, .int .u64 b, .int .u64 c, .int .u64 d] 35)) (.cells #[.int .u64 0, .int .u64 0, .int .u64 0, .int .u64 0] 35)
    rw [World.size_alloc] at this
    exact this
  have hbb : Hid (Below w.heap.size w w1) := by
    show Below w.heap.size w w1
    refine k1.below ((((Below.refl _ _).alloc (Nat.le_refl _) _).alloc (by simp) _).alloc (by simp; omega) _) ?_
    intro j hj
    rw [List.mem_singleton] at hj
    omega
  obtain ⟨R, hR⟩ : ∃ R, R = round ⟨a, b, c, d⟩ := ⟨_, rfl⟩
  rw [← hR] at h1
  have HR := Lib.hid hR
  have c0 : w1.cell? ⟨w.heap.size + 1 + 1, 0, none⟩ = some (.int .u64 (R.a : Nat)) := h1.cell 0
  have c1 : w1.cell? ⟨w.heap.size + 1 + 1, 1, none⟩ = some (.int .u64 (R.b : Nat)) := h1.cell 1
  have c2 : w1.cell? ⟨w.heap.size + 1 + 1, 2, none⟩ = some (.int .u64 (R.c : Nat)) := h1.cell 2
  have c3 : w1.cell? ⟨w.heap.size + 1 + 1, 3, none⟩ = some (.int .u64 (R.d : Nat)) := h1.cell 3
  have e0 : w1.cell? ⟨w.heap.size + 1, 0, none⟩ = some (.int .u64 0) := cell_of_row _ _ 0 _ 35 (0, 0) hb1
  have e1 : w1.cell? ⟨w.heap.size + 1, 1, none⟩ = some (.int .u64 0) := cell_of_row _ _ 1 _ 35 (0, 0) hb1
  have e2 : w1.cell? ⟨w.heap.size + 1, 2, none⟩ = some (.int .u64 0) := cell_of_row _ _ 2 _ 35 (0, 0) hb1
  have e3 : w1.cell? ⟨w.heap.size + 1, 3, none⟩ = some (.int .u64 0) := cell_of_row _ _ 3 _ 35 (0, 0) hb1
  have f0 : w1.frozen? ⟨w.heap.size + 1, 0, none⟩ = false := frozen_of_row _ _ 0 _ 35 hb1
  have f1 : w1.frozen? ⟨w.heap.size + 1, 1, none⟩ = false := frozen_of_row _ _ 1 _ 35 hb1
  have f2 : w1.frozen? ⟨w.heap.size + 1, 2, none⟩ = false := frozen_of_row _ _ 2 _ 35 hb1
  have f3 : w1.frozen? ⟨w.heap.size + 1, 3, none⟩ = false := frozen_of_row _ _ 3 _ 35 hb1
  clear k1 h1 hR hb1
  go_wp2_with fail
  refine bodyPost_ret (v := .agg #[.int .u64 R.a, .int .u64 R.b, .int .u64 R.c, .int .u64 R.d]) (by simp [results, Tryd.results21, go_sem, e0, e1, e2, e3]) rfl ?_
  rw [← HR.out]
  refine ⟨rfl, ?_⟩
  have hk := (((Keep.setCell w1 ⟨w.heap.size + 1, 0, none⟩ (.int .u64 R.a) [w.heap.size + 1] (by simp)).trans (Keep.setCell _ ⟨w.heap.size + 1, 1, none⟩ (.int .u64 R.b) [w.heap.size + 1] (by simp))).trans (Keep.setCell _ ⟨w.heap.size + 1, 2, none⟩ (.int .u64 R.c) [w.heap.size + 1] (by simp))).trans (Keep.setCell _ ⟨w.heap.size + 1, 3, none⟩ (.int .u64 R.d) [w.heap.size + 1] (by simp))
  exact hk.below hbb.out (by intro j hj; rw [List.mem_singleton] at hj; omega)
theorem l1_f (Y : Nat) (hy : Y < 2 ^ 64) (hD : decide ((9223372036854775808 : Int) ≤ (Y : Int)) = false) : IntKind.u64.wrap (2 * (Y : Int)) = ((L1 Y : Nat) : Int) := by
  have h := of_decide_eq_false hD
  rw [IntKind.wrap_u64]; unfold L1; omega
theorem l1_t (Y : Nat) (hy : Y < 2 ^ 64) (hD : decide ((9223372036854775808 : Int) ≤ (Y : Int)) = true) : IntKind.u64.wrap (IntKind.u64.wrap (2 * (Y : Int)) + 1) = ((L1 Y : Nat) : Int) := by
  have h := of_decide_eq_true hD
  rw [IntKind.wrap_u64, IntKind.wrap_u64]; unfold L1; omega
set_option maxRecDepth 100000 in
theorem left_is (x n : Nat) (hx : x < 2 ^ 64) (hn : n ≤ 100) (w : World) : Calls Tryd.prog 45 #[.int .u64 x, .int .i64 n] w fun e w' => e = .returned (.int .u64 (rot n x : Nat)) ∧ w' = w := by
  have hx0 := Lib.hid hx
  clear hx
  go_enter Tryd.func45, Tryd.ntmps45
  go_wp2
  go_loop [0, 5, 6] (fun y i _ => ∃ k : Nat, k ≤ n ∧ i = .int .i64 k ∧ y = .int .u64 (rot k x : Nat)) (fun _ i _ => n - (intOf i).toNat)
  case atStart => exact ⟨0, Nat.zero_le _, rfl, rfl⟩
  case round =>
    obtain ⟨k, hk, rfl, rfl⟩ := hrel
    have hy := rot_lt k x hx0.out
    have hnx : rot (k + 1) x = L1 (rot k x) := rfl
    obtain ⟨Y, hY⟩ : ∃ Y, Y = rot k x := ⟨_, rfl⟩
    rw [← hY] at hy hnx
    rw [← hY]
    have HNX := Lib.hid hnx
    have HYY := Lib.hid hY
    clear hnx hY
    have HY2 := Lib.hid hy
    clear hy
    by_cases hlt : k < n
    · go_upto_region 5 with (fail)
      generalize hD : decide ((9223372036854775808 : Int) ≤ (Y : Int)) = D
      have HD := Lib.hid hD
      clear hD
      cases D
      · go_wp2
        go_round
        case rel => exact ⟨k + 1, by omega, by go_num, by rw [HNX.out, ← l1_f Y HY2.out HD.out]⟩
        case measure => simp [intOf]; omega
      · go_wp2
        go_round
        case rel => exact ⟨k + 1, by omega, by go_num, by rw [HNX.out, ← l1_t Y HY2.out HD.out]⟩
        case measure => simp [intOf]; omega
    · obtain rfl : k = n := by omega
      go_wp2
      go_ret
      exact ⟨by rw [HYY.out]; rfl, rfl⟩
theorem below4 {w W : World} {k : Nat} (h : Below w.heap.size w W) (hk : w.heap.size ≤ k) (x y z t : Value) : Below w.heap.size w ((((W.setCell ⟨k, 0, none⟩ x).setCell ⟨k, 1, none⟩ y).setCell ⟨k, 2, none⟩ z).setCell ⟨k, 3, none⟩ t) :=
  (((Keep.setCell W ⟨k, 0, none⟩ x [k] (by simp)).trans (Keep.setCell _ ⟨k, 1, none⟩ y [k] (by simp))).trans ((Keep.setCell _ ⟨k, 2, none⟩ z [k] (by simp)).trans (Keep.setCell _ ⟨k, 3, none⟩ t [k] (by simp)))).below h (by intro j hj; rw [List.mem_singleton] at hj; omega)
theorem below_drewN' {w W : World} (h : Below w.heap.size w W) (n : Nat) : Below w.heap.size w (W.drewN n) := ⟨h.os, h.tape, h.output, h.size, h.block⟩
theorem left_lit (x : Nat) (hx : x < 2 ^ 64) (w : World) :
    (Calls Tryd.prog 45 #[.int .u64 x, .int .i64 13] w fun e w' => e = .returned (.int .u64 (rot 13 x : Nat)) ∧ w' = w) ∧ (Calls Tryd.prog 45 #[.int .u64 x, .int .i64 32] w fun e w' => e = .returned (.int .u64 (rot 32 x : Nat)) ∧ w' = w) ∧
    (Calls Tryd.prog 45 #[.int .u64 x, .int .i64 16] w fun e w' => e = .returned (.int .u64 (rot 16 x : Nat)) ∧ w' = w) ∧ (Calls Tryd.prog 45 #[.int .u64 x, .int .i64 21] w fun e w' => e = .returned (.int .u64 (rot 21 x : Nat)) ∧ w' = w) ∧
    (Calls Tryd.prog 45 #[.int .u64 x, .int .i64 17] w fun e w' => e = .returned (.int .u64 (rot 17 x : Nat)) ∧ w' = w) :=
  ⟨left_is x 13 hx (by decide) w, left_is x 32 hx (by decide) w, left_is x 16 hx (by decide) w, left_is x 21 hx (by decide) w, left_is x 17 hx (by decide) w⟩
set_option maxRecDepth 100000 in
theorem refRound_is (v : Four) (hv : v.Ok) (w : World) : Calls Tryd.prog 23 #[.agg (cells4 v)] w fun e w' => e = .returned (.agg (cells4 (round v))) ∧ Below w.heap.size w w' := by
  obtain ⟨a, b, c, d⟩ := v
  obtain ⟨ha, hb, hc, hd⟩ := hv
  dsimp only at ha hb hc hd
  show Calls Tryd.prog 23 #[.agg #[.int .u64 a, .int .u64 b, .int .u64 c, .int .u64 d]] w _
  have l1 := fun w => (left_lit b hb w).1
  have e1 := add_u64 a b
  obtain ⟨A1, hA1⟩ : ∃ A, A = add64 a b := ⟨_, rfl⟩
  have bA1 : A1 < 2 ^ 64 := by rw [hA1]; exact add_lt _ _
  rw [← hA1] at e1
  obtain ⟨B1, hB1⟩ : ∃ A, A = rot 13 b := ⟨_, rfl⟩
  have bB1 : B1 < 2 ^ 64 := by rw [hB1]; exact rot_lt _ _ hb
  rw [← hB1] at l1
  have e2 := xor_u64 B1 A1 bB1 bA1
  obtain ⟨B2, hB2⟩ : ∃ A, A = B1 ^^^ A1 := ⟨_, rfl⟩
  have bB2 : B2 < 2 ^ 64 := by rw [hB2]; exact Sip.xor_lt _ _ bB1 bA1
  rw [← hB2] at e2
  have l2 := fun w => (left_lit A1 bA1 w).2.1
  obtain ⟨A2, hA2⟩ : ∃ A, A = rot 32 A1 := ⟨_, rfl⟩
  rw [← hA2] at l2
  have e3 := add_u64 c d
  obtain ⟨C1, hC1⟩ : ∃ A, A = add64 c d := ⟨_, rfl⟩
  have bC1 : C1 < 2 ^ 64 := by rw [hC1]; exact add_lt _ _
  rw [← hC1] at e3
  have l3 := fun w => (left_lit d hd w).2.2.1
  obtain ⟨D1, hD1⟩ : ∃ A, A = rot 16 d := ⟨_, rfl⟩
  have bD1 : D1 < 2 ^ 64 := by rw [hD1]; exact rot_lt _ _ hd
  rw [← hD1] at l3
  have e4 := xor_u64 D1 C1 bD1 bC1
  obtain ⟨D2, hD2⟩ : ∃ A, A = D1 ^^^ C1 := ⟨_, rfl⟩
  have bD2 : D2 < 2 ^ 64 := by rw [hD2]; exact Sip.xor_lt _ _ bD1 bC1
  rw [← hD2] at e4
  have e5 := add_u64 A2 D2
  obtain ⟨A3, hA3⟩ : ∃ A, A = add64 A2 D2 := ⟨_, rfl⟩
  have bA3 : A3 < 2 ^ 64 := by rw [hA3]; exact add_lt _ _
  rw [← hA3] at e5
  have l4 := fun w => (left_lit D2 bD2 w).2.2.2.1
  obtain ⟨D3, hD3⟩ : ∃ A, A = rot 21 D2 := ⟨_, rfl⟩
  have bD3 : D3 < 2 ^ 64 := by rw [hD3]; exact rot_lt _ _ bD2
  rw [← hD3] at l4
  have e6 := xor_u64 D3 A3 bD3 bA3
  obtain ⟨D4, hD4⟩ : ∃ A, A = D3 ^^^ A3 := ⟨_, rfl⟩
  rw [← hD4] at e6
  have e7 := add_u64 C1 B2
  obtain ⟨C2, hC2⟩ : ∃ A, A = add64 C1 B2 := ⟨_, rfl⟩
  have bC2 : C2 < 2 ^ 64 := by rw [hC2]; exact add_lt _ _
  rw [← hC2] at e7
  have l5 := fun w => (left_lit B2 bB2 w).2.2.2.2
  obtain ⟨B3, hB3⟩ : ∃ A, A = rot 17 B2 := ⟨_, rfl⟩
  have bB3 : B3 < 2 ^ 64 := by rw [hB3]; exact rot_lt _ _ bB2
  rw [← hB3] at l5
  have e8 := xor_u64 B3 C2 bB3 bC2
  obtain ⟨B4, hB4⟩ : ∃ A, A = B3 ^^^ C2 := ⟨_, rfl⟩
  rw [← hB4] at e8
  have l6 := fun w => (left_lit C2 bC2 w).2.1
  obtain ⟨C3, hC3⟩ : ∃ A, A = rot 32 C2 := ⟨_, rfl⟩
  rw [← hC3] at l6
  have HR : Hid (round ⟨a, b, c, d⟩ = ⟨A3, B4, C3, D4⟩) := by
    show round ⟨a, b, c, d⟩ = ⟨A3, B4, C3, D4⟩
    rw [hC3, hB4, hB3, hC2, hD4, hD3, hA3, hD2, hD1, hC1, hA2, hB2, hB1, hA1]; rfl
  clear hC3 hB4 hB3 hC2 hD4 hD3 hA3 hD2 hD1 hC1 hA2 hB2 hB1 hA1 bA1 bB1 bB2 bC1 bD1 bD2 bA3 bD3 bC2 bB3 ha hb hc hd
  go_enter Tryd.func23, Tryd.ntmps23
  go_wp2
  go_quiet (fail)
  go_wp2_with (first | (go_at_call 45; (with_reducible refine (l1 _).mono ?_); rintro e w1 ⟨rfl, rfl⟩) | (go_at_call 45; (with_reducible refine (l2 _).mono ?_); rintro e w1 ⟨rfl, rfl⟩) | (go_at_call 45; (with_reducible refine (l3 _).mono ?_); rintro e w1 ⟨rfl, rfl⟩) | (go_at_call 45; (with_reducible refine (l4 _).mono ?_); rintro e w1 ⟨rfl, rfl⟩) | (go_at_call 45; (with_reducible refine (l5 _).mono ?_); rintro e w1 ⟨rfl, rfl⟩) | (go_at_call 45; (with_reducible refine (l6 _).mono ?_); rintro e w1 ⟨rfl, rfl⟩))
  refine bodyPost_ret (v := .agg #[.int .u64 A3, .int .u64 B4, .int .u64 C3, .int .u64 D4]) (by simp [results, Tryd.results23, go_sem]) rfl ?_
  rw [HR.out]
  exact ⟨rfl, below4 (below_drewN' ((((Below.refl _ _).alloc (Nat.le_refl _) _).alloc (by simp) _)) _) (by omega) _ _ _ _⟩
theorem sub_u64 (a b : Nat) (hb : b < 2 ^ 64) : IntKind.u64.wrap ((a : Int) - (b : Int)) = ((sub64 a b : Nat) : Int) := by
  rw [IntKind.wrap_u64]; unfold sub64; omega
theorem sub_lt (a b : Nat) : sub64 a b < 2 ^ 64 := Nat.mod_lt _ (by decide)
theorem turn_neg (x : Nat) (hx : x < 2 ^ 64) (w : World) :
    (Calls Tryd.prog 20 #[.int .u64 x, .int .i64 (-32)] w fun e w' => e = .returned (.int .u64 (rot 32 x : Nat)) ∧ ∃ k, w' = w.drewN k) ∧ (Calls Tryd.prog 20 #[.int .u64 x, .int .i64 (-17)] w fun e w' => e = .returned (.int .u64 (rot 47 x : Nat)) ∧ ∃ k, w' = w.drewN k) ∧
    (Calls Tryd.prog 20 #[.int .u64 x, .int .i64 (-21)] w fun e w' => e = .returned (.int .u64 (rot 43 x : Nat)) ∧ ∃ k, w' = w.drewN k) ∧ (Calls Tryd.prog 20 #[.int .u64 x, .int .i64 (-16)] w fun e w' => e = .returned (.int .u64 (rot 48 x : Nat)) ∧ ∃ k, w' = w.drewN k) ∧
    (Calls Tryd.prog 20 #[.int .u64 x, .int .i64 (-13)] w fun e w' => e = .returned (.int .u64 (rot 51 x : Nat)) ∧ ∃ k, w' = w.drewN k) :=
  ⟨turn_is x (-32) hx w, turn_is x (-17) hx w, turn_is x (-21) hx w, turn_is x (-16) hx w, turn_is x (-13) hx w⟩
set_option maxRecDepth 100000 in
theorem back_is (v : Four) (hv : v.Ok) (w : World) : Calls Tryd.prog 22 #[.agg (cells4 v)] w fun e w' => e = .returned (.agg (cells4 (back v))) ∧ Below w.heap.size w w' := by
  obtain ⟨a, b, c, d⟩ := v
  obtain ⟨ha, hb, hc, hd⟩ := hv
  dsimp only at ha hb hc hd
  show Calls Tryd.prog 22 #[.agg #[.int .u64 a, .int .u64 b, .int .u64 c, .int .u64 d]] w _
  have l1 := fun w => (turn_neg c hc w).1
  obtain ⟨C1, hC1⟩ : ∃ A, A = rot 32 c := ⟨_, rfl⟩
  have bC1 : C1 < 2 ^ 64 := by rw [hC1]; exact rot_lt _ _ hc
  rw [← hC1] at l1
  have e1 := xor_u64 b C1 hb bC1
  obtain ⟨B1, hB1⟩ : ∃ A, A = b ^^^ C1 := ⟨_, rfl⟩
  have bB1 : B1 < 2 ^ 64 := by rw [hB1]; exact Sip.xor_lt _ _ hb bC1
  rw [← hB1] at e1
  have l2 := fun w => (turn_neg B1 bB1 w).2.1
  obtain ⟨B2, hB2⟩ : ∃ A, A = rot 47 B1 := ⟨_, rfl⟩
  have bB2 : B2 < 2 ^ 64 := by rw [hB2]; exact rot_lt _ _ bB1
  rw [← hB2] at l2
  have e2 := sub_u64 C1 B2 bB2
  obtain ⟨C2, hC2⟩ : ∃ A, A = sub64 C1 B2 := ⟨_, rfl⟩
  have bC2 : C2 < 2 ^ 64 := by rw [hC2]; exact sub_lt _ _
  rw [← hC2] at e2
  have e3 := xor_u64 d a hd ha
  obtain ⟨D1, hD1⟩ : ∃ A, A = d ^^^ a := ⟨_, rfl⟩
  have bD1 : D1 < 2 ^ 64 := by rw [hD1]; exact Sip.xor_lt _ _ hd ha
  rw [← hD1] at e3
  have l3 := fun w => (turn_neg D1 bD1 w).2.2.1
  obtain ⟨D2, hD2⟩ : ∃ A, A = rot 43 D1 := ⟨_, rfl⟩
  have bD2 : D2 < 2 ^ 64 := by rw [hD2]; exact rot_lt _ _ bD1
  rw [← hD2] at l3
  have e4 := sub_u64 a D2 bD2
  obtain ⟨A1, hA1⟩ : ∃ A, A = sub64 a D2 := ⟨_, rfl⟩
  have bA1 : A1 < 2 ^ 64 := by rw [hA1]; exact sub_lt _ _
  rw [← hA1] at e4
  have e5 := xor_u64 D2 C2 bD2 bC2
  obtain ⟨D3, hD3⟩ : ∃ A, A = D2 ^^^ C2 := ⟨_, rfl⟩
  have bD3 : D3 < 2 ^ 64 := by rw [hD3]; exact Sip.xor_lt _ _ bD2 bC2
  rw [← hD3] at e5
  have l4 := fun w => (turn_neg D3 bD3 w).2.2.2.1
  obtain ⟨D4, hD4⟩ : ∃ A, A = rot 48 D3 := ⟨_, rfl⟩
  have bD4 : D4 < 2 ^ 64 := by rw [hD4]; exact rot_lt _ _ bD3
  rw [← hD4] at l4
  have e6 := sub_u64 C2 D4 bD4
  obtain ⟨C3, hC3⟩ : ∃ A, A = sub64 C2 D4 := ⟨_, rfl⟩
  rw [← hC3] at e6
  have l5 := fun w => (turn_neg A1 bA1 w).1
  obtain ⟨A2, hA2⟩ : ∃ A, A = rot 32 A1 := ⟨_, rfl⟩
  have bA2 : A2 < 2 ^ 64 := by rw [hA2]; exact rot_lt _ _ bA1
  rw [← hA2] at l5
  have e7 := xor_u64 B2 A2 bB2 bA2
  obtain ⟨B3, hB3⟩ : ∃ A, A = B2 ^^^ A2 := ⟨_, rfl⟩
  have bB3 : B3 < 2 ^ 64 := by rw [hB3]; exact Sip.xor_lt _ _ bB2 bA2
  rw [← hB3] at e7
  have l6 := fun w => (turn_neg B3 bB3 w).2.2.2.2
  obtain ⟨B4, hB4⟩ : ∃ A, A = rot 51 B3 := ⟨_, rfl⟩
  have bB4 : B4 < 2 ^ 64 := by rw [hB4]; exact rot_lt _ _ bB3
  rw [← hB4] at l6
  have e8 := sub_u64 A2 B4 bB4
  obtain ⟨A3, hA3⟩ : ∃ A, A = sub64 A2 B4 := ⟨_, rfl⟩
  rw [← hA3] at e8
  have HR : Hid (back ⟨a, b, c, d⟩ = ⟨A3, B4, C3, D4⟩) := by
    show back ⟨a, b, c, d⟩ = ⟨A3, B4, C3, D4⟩
    rw [hA3, hB4, hB3, hA2, hC3, hD4, hD3, hA1, hD2, hD1, hC2, hB2, hB1, hC1]; rfl
  clear hA3 hB4 hB3 hA2 hC3 hD4 hD3 hA1 hD2 hD1 hC2 hB2 hB1 hC1 bC1 bB1 bB2 bC2 bD1 bD2 bA1 bD3 bD4 bA2 bB3 bB4 ha hb hc hd
  go_enter Tryd.func22, Tryd.ntmps22
  go_wp2
  go_quiet (fail)
  go_wp2_with (first | (go_at_call 20; (with_reducible refine (l1 _).mono ?_); rintro e w1 ⟨rfl, k1, rfl⟩) | (go_at_call 20; (with_reducible refine (l2 _).mono ?_); rintro e w1 ⟨rfl, k1, rfl⟩) | (go_at_call 20; (with_reducible refine (l3 _).mono ?_); rintro e w1 ⟨rfl, k1, rfl⟩) | (go_at_call 20; (with_reducible refine (l4 _).mono ?_); rintro e w1 ⟨rfl, k1, rfl⟩) | (go_at_call 20; (with_reducible refine (l5 _).mono ?_); rintro e w1 ⟨rfl, k1, rfl⟩) | (go_at_call 20; (with_reducible refine (l6 _).mono ?_); rintro e w1 ⟨rfl, k1, rfl⟩))
  refine bodyPost_ret (v := .agg #[.int .u64 A3, .int .u64 B4, .int .u64 C3, .int .u64 D4]) (by simp [results, Tryd.results22, go_sem]) rfl ?_
  rw [HR.out]
  refine ⟨rfl, below4 ?_ (by omega) _ _ _ _⟩
  exact below_drewN' ((((Below.refl _ _).alloc (Nat.le_refl _) _).alloc (by simp) _)) _
end Go.Proofs.YthmiomncgkmnoaaDoor
