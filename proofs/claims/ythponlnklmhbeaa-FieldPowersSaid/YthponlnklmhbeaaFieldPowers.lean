/- The walk of the law FieldPowers. -/
import Derived.Test.YthponlnklmhbeaaFieldSquares
set_option linter.unusedVariables false
set_option linter.unusedSimpArgs false
namespace Go.Proofs.Ythponlnklmhbeaa
open Go.RowKit Go.Sort F7
def bs32 : Array Value := Array.replicate 128 (.bool false)
theorem zero32 : ∀ w, (zeroValue 32).run Try.prog w = .ok (.agg bs32) w := by
  have h : (Try.prog.info? 32).map (fun i => i.zero) = some (some (.agg bs32)) := by kernel_rfl
  intro w
  obtain ⟨i, hi, hz⟩ := Option.map_eq_some_iff.1 h
  simp [zeroValue, typeInfo, hi, hz]
/-- The powers from i on are not met yet. -/
structure Mt (w w' : World) (b d i : Nat) (cs : Array Value) : Prop where
  heap : w'.heap[d]? = some (.cells cs 32 (0, 0))
  size : cs.size = 128
  free : ∀ j, i ≤ j → j < 127 → cs[ex j]? = some (.bool false)
  fd : Fd w' b
  below : Below w.heap.size w w'
  base : w.heap.size ≤ d
  ne : d ≠ b
theorem Fd.set {w : World} {b d x : Nat} {v : Value} (h : Fd w b) (hne : d ≠ b) : Fd (w.setCell ⟨d, x, none⟩ v) b :=
  ⟨fun j hj => by rw [World.cell?_setCell_other (h := fun e => hne (congrArg Addr.block e))]; exact h.exp j hj, fun j hj => by rw [World.cell?_setCell_other (h := fun e => hne (congrArg Addr.block e))]; exact h.log j hj⟩
theorem Mt.step {w w1 : World} {b d i : Nat} {cs : Array Value} (h : Mt w w1 b d i cs) (hi : i < 127) (k : Nat) : Mt w ((w1.drewN k).setCell ⟨d, ex i, none⟩ (.bool true)) b d (i + 1) (cs.setIfInBounds (ex i) (.bool true)) := by
  have hs := h.size
  have hb := below_new h.below k
  refine ⟨heap_setCell_same _ d _ _ 32 _ h.heap, set_size hs _ _, ?_, (h.fd.drewN k).set h.ne, below_gb hb (gb_setCell _ ⟨d, ex i, none⟩ _) hb.size h.base, h.base, h.ne⟩
  intro j h1 h2
  have hlt := ex_lt i
  rw [set_get _ _ _ (by rw [hs]; exact hlt), if_neg (fun e => by have := ex_inj i j hi h2 e; omega)]
  exact h.free j (by omega) h2
theorem powI_pos (x : Nat) (h : x ≠ 0) (n : Int) : powI x n = ex (lg x * r127 n) := by
  unfold powI
  by_cases hn : n = 0
  · subst hn; rw [if_pos rfl, show r127 0 = 0 by decide, Nat.mul_zero, ex_zero]
  · rw [if_neg hn, if_neg h]
theorem powI_add (x : Nat) (hx : x < 128) (h : x ≠ 0) (n m : Int) : mul (powI x n) (powI x m) = powI x (n + m) := by
  rw [powI_pos x h, powI_pos x h, powI_pos x h, mul_ex, ← Nat.mul_add]
  apply ex_cong
  have : (r127 n + r127 m) % 127 = r127 (n + m) % 127 := by unfold r127; omega
  rw [Nat.mul_mod, this, ← Nat.mul_mod]
theorem powI_zero (x : Nat) : powI x 0 = 1 := if_pos rfl
set_option maxRecDepth 100000 in
set_option maxHeartbeats 4000000 in
theorem fieldPowers_walk (a n m : Int) (w : World) (h0 : (Lit.int .i64 a).wf = true) (h1 : (Lit.int .i64 n).wf = true) (h2 : (Lit.int .i64 m).wf = true) :
    Calls Try.prog 5 #[.int .i64 a, .int .i64 n, .int .i64 m] w fun e w' => e = .returned (.bool true) ∧ Below w.heap.size w w' := by
  clear h0 h1 h2
  have hb0 := Below.refl w.heap.size w
  obtain ⟨p, hp⟩ : ∃ p, n.tmod 1000000 = p := ⟨_, rfl⟩
  obtain ⟨q, hq⟩ : ∃ q, m.tmod 1000000 = q := ⟨_, rfl⟩
  have hp1 : -1000000 < p ∧ p < 1000000 := by
    rw [← hp, Int.tmod_eq_emod]; split <;> omega
  have hq1 : -1000000 < q ∧ q < 1000000 := by
    rw [← hq, Int.tmod_eq_emod]; split <;> omega
  have c1 := fun b => log_is b a
  have c2 := fun b n => pow_is b a n
  have hxl := r7_lt a
  obtain ⟨x, hx⟩ : ∃ x, x = r7 a := ⟨_, rfl⟩
  rw [← hx] at c1 c2 hxl
  clear hx
  have HC1 := Lib.hid c1
  have HC2 := Lib.hid c2
  have hz := fun w => zero32 w
  clear c1 c2
  go_enter Try.func5, Try.ntmps5
  go_wp2_with (first | (go_at_call 15; (with_reducible refine (on_base (by assumption) (fieldAwake_is _)).mono ?_); rintro e w1 ⟨rfl, hb1⟩) | (go_at_call 16; (with_reducible refine (new_on hb1).mono ?_); rintro e W ⟨b, rfl, hF, hbW⟩; have HF := Lib.hid hF; clear hF))
  obtain ⟨d, hd⟩ : ∃ d, d = W.heap.size := ⟨_, rfl⟩
  have hM0 : Mt w (W.alloc (.cells bs32 32)) b d 0 bs32 := ⟨by rw [hd]; exact heap_alloc_new W _, by simp [bs32], by
    intro j _ hj
    have := ex_lt j
    simp [bs32, this], HF.out.below ((Below.refl _ _).alloc (Nat.le_refl _) _), hbW.alloc hbW.size _, by rw [hd]; exact hbW.size, by
    have := World.block_lt_of_cell? W _ (HF.out.exp 0 (by omega))
    rw [hd]; intro e; rw [← e] at this; exact Nat.lt_irrefl _ this⟩
  rw [← hd]
  clear hd hbW HF hb1
  generalize W.alloc (.cells bs32 32) = W0 at *
  go_loopw [9] (fun i wr => ∃ j : Nat, j ≤ 127 ∧ i = .int .i64 j ∧ Hid (∃ cs, Mt w wr b d j cs)) (fun i _ => 127 - (intOf i).toNat)
  case atStart => exact ⟨0, by omega, rfl, Lib.hid ⟨bs32, hM0⟩⟩
  case round =>
    clear hM0
    obtain ⟨j, hj, rfl, HM⟩ := hrel
    by_cases hlt : j < 127
    · obtain ⟨cs, hM⟩ := HM.out
      have hs := hM.size
      have hx1 := ex_lt j
      have hx2 := ex_pos j
      have hc := cell_in wr d (ex j) cs 32 _ hM.heap (hM.free j (Nat.le_refl _) hlt)
      have hf := free_in wr d (ex j) cs 32 hM.heap
      have e1 := fun w => exp_is b j w
      rw [r127_nat] at e1
      have e2 := fun w => log_is b (ex j) w
      rw [r7_nat hx1, lgI_pos (by omega), lg_ex, Nat.mod_eq_of_lt hlt] at e2
      have HF := Lib.hid hM.fd
      have HST := Lib.hid (fun k => hM.step hlt k)
      obtain ⟨X, hX⟩ : ∃ X, X = ex j := ⟨_, rfl⟩
      rw [← hX] at hx1 hx2 hc hf e1 e2
      have HX := Lib.hid hX
      clear hX hs hM HM HC1 HC2
      go_wp2_with (first | (go_at_call 20; (with_reducible refine (e1 _ (by first | exact HF.out | exact HF.out.drewN _)).mono ?_); rintro e w2 ⟨rfl, k2, rfl⟩) | (go_at_call 21; (with_reducible refine (e2 _ (by first | exact HF.out | exact HF.out.drewN _)).mono ?_); rintro e w3 ⟨rfl, k3, rfl⟩))
      go_roundw
      case rel => exact ⟨j + 1, by omega, by go_num, Lib.hid ⟨_, by rw [HX.out]; exact HST.out _⟩⟩
      case measure => simp [intOf]; omega
    · obtain rfl : j = 127 := by omega
      obtain ⟨cs, hM⟩ := HM.out
      have HF := Lib.hid hM.fd
      have hbM := hM.below
      clear hM HM
      have c1 := HC1.out b
      have cp := HC2.out b p
      have hp2 := hp1.1
      have hp3 := hp1.2
      have hq2 := hq1.1
      have hq3 := hq1.2
      clear hp1 hq1
      by_cases hx0 : x = 0
      · subst hx0
        rw [lgI_zero] at c1
        have c0 := HC2.out b 0
        rw [powI_zero] at c0
        change ∀ w, Fd w b → Calls Try.prog 22 _ w fun e w' => e = .returned (.int .i64 1) ∧ _ at c0
        clear HC1 HC2
        by_cases hp0 : p = 0
        · subst hp0
          clear cp
          go_wp2_with (first | (go_at_call 21; (with_reducible refine (c1 _ (by first | exact HF.out | exact HF.out.drewN _)).mono ?_); rintro e w4 ⟨rfl, k4, rfl⟩) | (go_at_call 22; (with_reducible refine (c0 _ (by first | exact HF.out | exact HF.out.drewN _)).mono ?_); rintro e w4 ⟨rfl, k4, rfl⟩))
          go_ret
          exact ⟨rfl, below_new hbM _⟩
        · have hpe : (p == 0) = false := by simp [hp0]
          have hz0 : powI 0 p = 0 := by unfold powI; rw [if_neg hp0, if_pos rfl]
          rw [hz0] at cp
          change ∀ w, Fd w b → Calls Try.prog 22 _ w fun e w' => e = .returned (.int .i64 0) ∧ _ at cp
          clear hp0 hz0
          go_wp2_with (first | (go_at_call 21; (with_reducible refine (c1 _ (by first | exact HF.out | exact HF.out.drewN _)).mono ?_); rintro e w4 ⟨rfl, k4, rfl⟩) | (go_at_call 22; (with_reducible refine (c0 _ (by first | exact HF.out | exact HF.out.drewN _)).mono ?_); rintro e w4 ⟨rfl, k4, rfl⟩) | (go_at_call 22; (with_reducible refine (cp _ (by first | exact HF.out | exact HF.out.drewN _)).mono ?_); rintro e w4 ⟨rfl, k4, rfl⟩))
          go_ret
          exact ⟨rfl, below_new hbM _⟩
      · rw [lgI_pos hx0] at c1
        have cq := HC2.out b q
        have cs' := HC2.out b (p + q)
        have cn := HC2.out b (-p)
        have m1 := fun w => mulN b (powI_lt x p) (powI_lt x q) w
        rw [powI_add x hxl hx0] at m1
        have m2 := fun w => mulN b (powI_lt x p) (powI_lt x (-p)) w
        rw [powI_add x hxl hx0, Int.add_right_neg, powI_zero] at m2
        change ∀ w, Fd w b → Calls Try.prog 17 _ w fun e w' => e = .returned (.int .i64 1) ∧ _ at m2
        have e1 := fun w => exp_is b p w
        have e2 := fun w => pow_is b 2 p w
        rw [show r7 2 = 2 by decide, powI_pos 2 (by decide), show lg 2 = 1 by decide +kernel, Nat.one_mul] at e2
        obtain ⟨L, hL⟩ : ∃ L, L = lg x := ⟨_, rfl⟩
        obtain ⟨A, hA⟩ : ∃ A, A = powI x p := ⟨_, rfl⟩
        obtain ⟨B, hB⟩ : ∃ B, B = powI x q := ⟨_, rfl⟩
        obtain ⟨C, hC⟩ : ∃ C, C = powI x (p + q) := ⟨_, rfl⟩
        obtain ⟨D, hD⟩ : ∃ D, D = powI x (-p) := ⟨_, rfl⟩
        obtain ⟨E, hE⟩ : ∃ E, E = ex (r127 p) := ⟨_, rfl⟩
        rw [← hL] at c1
        rw [← hA] at cp m1 m2
        rw [← hB] at cq m1
        rw [← hC] at cs' m1
        rw [← hD] at cn m2
        rw [← hE] at e1 e2
        have hL0 : ¬ ((L : Nat) : Int) < 0 := by omega
        clear hL hA hB hC hD hE HC1 HC2 hx0 hxl
        go_wp2_with (first | (go_at_call 21; (with_reducible refine (c1 _ (by first | exact HF.out | exact HF.out.drewN _)).mono ?_); rintro e w4 ⟨rfl, k4, rfl⟩) | (go_at_call 22; (with_reducible refine (cp _ (by first | exact HF.out | exact HF.out.drewN _)).mono ?_); rintro e w4 ⟨rfl, k4, rfl⟩) | (go_at_call 22; (with_reducible refine (cq _ (by first | exact HF.out | exact HF.out.drewN _)).mono ?_); rintro e w4 ⟨rfl, k4, rfl⟩) | (go_at_call 22; (with_reducible refine (cs' _ (by first | exact HF.out | exact HF.out.drewN _)).mono ?_); rintro e w4 ⟨rfl, k4, rfl⟩) | (go_at_call 22; (with_reducible refine (cn _ (by first | exact HF.out | exact HF.out.drewN _)).mono ?_); rintro e w4 ⟨rfl, k4, rfl⟩) | (go_at_call 22; (with_reducible refine (e2 _ (by first | exact HF.out | exact HF.out.drewN _)).mono ?_); rintro e w4 ⟨rfl, k4, rfl⟩) | (go_at_call 17; (with_reducible refine (m1 _ (by first | exact HF.out | exact HF.out.drewN _)).mono ?_); rintro e w4 ⟨rfl, k4, rfl⟩) | (go_at_call 17; (with_reducible refine (m2 _ (by first | exact HF.out | exact HF.out.drewN _)).mono ?_); rintro e w4 ⟨rfl, k4, rfl⟩) | (go_at_call 20; (with_reducible refine (e1 _ (by first | exact HF.out | exact HF.out.drewN _)).mono ?_); rintro e w4 ⟨rfl, k4, rfl⟩))
        go_ret
        exact ⟨rfl, below_new hbM _⟩
end Go.Proofs.Ythponlnklmhbeaa
