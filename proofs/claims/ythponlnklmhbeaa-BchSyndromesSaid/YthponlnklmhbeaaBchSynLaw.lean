/- The law BchSyndromes: its walk. -/
import Derived.Test.YthponlnklmhbeaaBchAt
set_option linter.unusedVariables false
set_option linter.unusedSimpArgs false
namespace Go.Proofs.Ythponlnklmhbeaa
open Go.RowKit Go.Sort F7
def zb (f : Nat → Bool) (k : Nat) : Bool := (List.range k).all fun j => syn f (j + 1) == 0
theorem zb_succ (f : Nat → Bool) (k : Nat) : zb f (k + 1) = (zb f k && (syn f (k + 1) == 0)) := by
  unfold zb
  rw [List.range_succ, List.all_append, List.all_cons, List.all_nil, Bool.and_true]
structure Sn (w0 w : World) (b g : Nat) (f : Nat → Bool) (l : List Nat) : Prop where
  wd : Wd 39 w b f
  row : Row w g .i64 (casts l)
  below : Below w0.heap.size w0 w
theorem Sn.grown {w0 w : World} {b g : Nat} {f : Nat → Bool} {l : List Nat} (h : Sn w0 w b g f l) (d : Nat) (os : Array Obj) : Sn w0 (grow (redrawn w d) os) b g f l :=
  ⟨h.wd.below (below_regrown w d os), h.row.below (below_regrown w d os), h.below.trans ((below_regrown w d os).mono h.below.size)⟩
set_option maxRecDepth 100000 in
set_option maxHeartbeats 3200000 in
theorem bchSyndromes_walk (f : Nat → Bool) (w : World) : Calls Try.prog 13 #[.agg (wordV f)] w fun e w' => e = .returned (.bool true) ∧ Below w.heap.size w w' := by
  have ha := fun w => bchAwake_is w
  have hs := fun w => syndromes_is f w
  obtain ⟨P, hP⟩ : ∃ P, P = part f 127 0 := ⟨_, rfl⟩
  have hPl : P.length = 20 := by rw [hP]; exact part_length f 127 0
  have hPg : ∀ k, k < 20 → P.getD k 0 = syn f (k + 1) := fun k hk => by rw [hP, part_get f 127 0 k hk, if_neg (by omega)]; rfl
  rw [← hP] at hs
  have HPL := Lib.hid hPl
  have HPG := Lib.hid hPg
  obtain ⟨B, hB⟩ : ∃ B, B = isB f := ⟨_, rfl⟩
  have hz20 : zb f 20 = B := by rw [hB]; rfl
  have hi : ∀ w, Calls Try.prog 34 #[.agg (wordV f)] w fun e w' => e = .returned (.bool B) ∧ Below w.heap.size w w' := fun w => by rw [hB]; exact is_is f w
  have hpow : ∀ (j : Nat) w, j ≤ 127 → Calls Try.prog 26 #[.int .i64 2, .int .i64 ((j : Int) + 1)] w fun e w' => e = .returned (.int .i64 (ex (j + 1) : Nat)) ∧ w' = w := fun j w hj => by
    have := refPow_is 2 (j + 1) (by omega) w
    rw [show r7 2 = 2 by decide, pow_two] at this
    exact this
  have hat := fun j w => refAt_is f j w
  obtain ⟨b, hb⟩ : ∃ b, b = w.heap.size := ⟨_, rfl⟩
  obtain ⟨W, hW⟩ : ∃ W, W = w.alloc (.cells (wordV f) 39) := ⟨_, rfl⟩
  have h1 : Wd 39 W b f := by rw [hW, hb]; exact Wd.boxed w 39 f
  have HB : Hid (Below w.heap.size w W) := by show Below w.heap.size w W; rw [hW]; exact (Below.refl _ _).alloc (Nat.le_refl _) _
  have H1 := Lib.hid h1
  have HW := Lib.hid hW
  have hb' := hb.symm
  have hszf := Lib.hid (size39 f)
  have HPOW := Lib.hid hpow
  have HAT := Lib.hid hat
  have HZ := Lib.hid hz20
  clear h1 hW hb hP hPl hPg hB hpow hat hz20
  go_enter Try.func13, Try.ntmps13
  go_upto_region 1 with (fail)
  rw [← HW.out]
  clear HW hb'
  go_upto_region 3 with (go_at_call 28; (with_reducible refine (ha _).mono ?_); rintro e w1 ⟨rfl, hb1⟩; have HB1 := Lib.hid hb1; clear hb1)
  have H2 : Hid (Wd 39 w1 b f) := H1.out.below HB1.out
  go_upto_region 5 with (first | (refine wpList_load_row rfl 39 (.tmp 1) rfl b rfl 39 (wordV f) (0, 0) _ H2.out Try.underlying39 rfl hszf.out ?_) | (go_at_call 36; (with_reducible refine (hs _).mono ?_); rintro e w2 ⟨g, rfl, hr2, hb2, hg2⟩; have HR := Lib.hid (And.intro hr2 hb2); clear hr2 hb2 hg2))
  have HS : Hid (Sn w w2 b g f P) := by
    have b1 := HB.out.trans (HB1.out.mono HB.out.size)
    exact ⟨H2.out.below HR.out.2, HR.out.1, b1.trans (HR.out.2.mono b1.size)⟩
  clear H1 H2 HB HB1 HR ha hs
  go_wp2
  go_loopw [4, 5] (fun z i wr => ∃ k : Nat, k ≤ 20 ∧ i = .int .i64 k ∧ z = .bool (zb f k) ∧ Hid (Sn w wr b g f P)) (fun _ i _ => 20 - (intOf i).toNat)
  case atStart => exact ⟨0, by omega, rfl, rfl, HS⟩
  case round =>
    clear HS
    obtain ⟨k, hk, rfl, rfl, hA⟩ := hrel
    by_cases hlt : k < 20
    · have hc := hA.out.row.at_ k (by rw [casts_length, HPL.out]; exact hlt)
      rw [casts_get, HPG.out k hlt] at hc
      have hzs := zb_succ f k
      obtain ⟨X, hX⟩ : ∃ X, X = syn f (k + 1) := ⟨_, rfl⟩
      have hXl : X < 128 := by rw [hX]; exact syn_lt f _
      rw [← hX] at hc hzs
      have e1 : ∀ d os, Calls Try.prog 26 #[.int .i64 2, .int .i64 ((k : Int) + 1)] (grow (redrawn wr d) os) fun e w' => e = .returned (.int .i64 (ex (k + 1) : Nat)) ∧ ∃ p : Regrown, w' = grow (redrawn wr p.d) p.os := fun d os => (HPOW.out k _ (by omega)).mono fun e w' ⟨h1, h2⟩ => ⟨h1, ⟨d, os⟩, h2⟩
      obtain ⟨A, hAe⟩ : ∃ A, A = ex (k + 1) := ⟨_, rfl⟩
      rw [← hAe] at e1
      have e2 : ∀ d os, Calls Try.prog 37 #[.agg (wordV f), .int .i64 (A : Nat)] (grow (redrawn wr d) os) fun e w' => e = .returned (.int .i64 (X : Nat)) ∧ ∃ p : Regrown, w' = grow (redrawn wr p.d) p.os := fun d os => by
        rw [hX, hAe]; exact (HAT.out (k + 1) _).regrown_of
      have HE1 := Lib.hid e1
      have HE2 := Lib.hid e2
      have l1 : ∀ d os, (grow (redrawn wr d) os).cell? ⟨g, k, none⟩ = some (.int .i64 (X : Nat)) := fun d os => cell_regrown hc d os
      obtain ⟨T, hT⟩ : ∃ T, T = zb f k := ⟨_, rfl⟩
      rw [← hT] at hzs
      rw [← hT]
      have HZS := Lib.hid hzs
      have hw5 : Hid (Wd 39 wr b f) := hA.out.wd
      clear e1 e2 hX hAe hT hzs hc
      obtain ⟨wo, rfl⟩ : ∃ wo : World, wo = wr := ⟨_, rfl⟩
      go_wp2_with fail
      refine wp_region_quiet_below (by kernel_rfl) (by kernel_rfl) ?_
      repeat (first | go_big_quiet_skip | (go_big_quiet_want; refine quiet_load_row 39 (.tmp 1) rfl b rfl 39 (wordV f) (0, 0) _ hw5.out Try.underlying39 rfl hszf.out ?_; simp only [Act.put, List.setIfInBounds_toArray, List.set_cons_succ, List.set_cons_zero]; go_big_quiet_on) | go_big_quiet_step (first | (with_reducible exact HE1.out _ _) | (with_reducible exact HE2.out _ _)))
      refine wpQuiet_nil ?_
      intro _ hw'
      obtain ⟨⟨dq, osq⟩, hw''⟩ := hw'
      subst hw''
      have l2 := l1 dq osq
      have hN : Hid (Sn w (grow (redrawn wo dq) osq) b g f P) := hA.out.grown dq osq
      clear l1 hA HE1 HE2 hw5
      generalize grow (redrawn wo dq) osq = w6 at *
      by_cases h0 : X = 0
      · subst h0
        cases T
        all_goals
          go_wp2
          go_roundw
          case rel => exact ⟨k + 1, by omega, by go_num, by rw [HZS.out]; rfl, hN⟩
          case measure => simp [intOf]; omega
      · have hne : ((X : Int) == 0) = false := by rw [beq_eq_false_iff_ne]; omega
        have HX0 : Hid ((X == 0) = false) := by show (X == 0) = false; rw [beq_eq_false_iff_ne]; exact h0
        cases T
        all_goals
          go_wp2
          go_roundw
          case rel => exact ⟨k + 1, by omega, by go_num, by rw [HZS.out, HX0.out]; rfl, hN⟩
          case measure => simp [intOf]; omega
    · obtain rfl : k = 20 := by omega
      rw [HZ.out]
      have hw5 : Hid (Wd 39 wr b f) := hA.out.wd
      have hbw : Hid (Below w.heap.size w wr) := hA.out.below
      clear hA HZ
      cases B
      all_goals
        go_wp2_with (first | (refine wpList_load_row_want rfl 39 (.tmp 1) rfl b rfl 39 (wordV f) (0, 0) _ hw5.out Try.underlying39 rfl hszf.out ?_) | (go_at_call 34; (with_reducible refine (hi _).mono ?_); rintro e w7 ⟨rfl, hb7⟩; have HB7 := Lib.hid hb7; clear hb7))
        go_ret
        exact ⟨rfl, hbw.out.trans (HB7.out.mono hbw.out.size)⟩
end Go.Proofs.Ythponlnklmhbeaa
