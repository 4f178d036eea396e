/- The document's product by x + a: its walk. -/
import Derived.Test.YthponlnklmhbeaaBchGenWalk
import Derived.Test.YthponlnklmhbeaaFieldRef
set_option linter.unusedVariables false
set_option linter.unusedSimpArgs false
namespace Go.Proofs.Ythponlnklmhbeaa
open Go.RowKit Go.Sort F7
/-- A row made, beside an old one. -/
structure Tm (w0 w : World) (g g' : Nat) (p l : List Nat) : Prop where
  row : Row w g' .i64 (casts l)
  old : Row w g .i64 (casts p)
  below : Below w0.heap.size w0 w
  new : w0.heap.size ≤ g'
  ne : g ≠ g'
theorem Tm.set {w0 w : World} {g g' : Nat} {p l : List Nat} (h : Tm w0 w g g' p l) (i x : Nat) (hi : i < l.length) : Tm w0 (w.setCell ⟨g', i, none⟩ (.int .i64 x)) g g' p (l.set i x) := by
  refine ⟨?_, h.old.other ⟨g', i, none⟩ _ h.ne, below_gb h.below (gb_setCell _ ⟨g', i, none⟩ _) h.below.size h.new, h.new, h.ne⟩
  have := h.row.set i (x : Int) (by rw [casts_length]; exact hi)
  rw [casts_set] at this
  exact this
theorem Tm.drewN {w0 w : World} {g g' : Nat} {p l : List Nat} (h : Tm w0 w g g' p l) (k : Nat) : Tm w0 (w.drewN k) g g' p l :=
  ⟨h.row.below (below_drewN w k), h.old.below (below_drewN w k), h.below.trans ((below_drewN w k).mono h.below.size), h.new, h.ne⟩
set_option maxRecDepth 100000 in
set_option maxHeartbeats 3200000 in
theorem refTimes_is (g cap : Nat) (p : List Nat) (a : Nat) (w : World) (hr : Row w g .i64 (casts p)) (hn0 : p.length ≤ 900) (hl : Low p) (ha : a < 128) :
    Calls Try.prog 40 #[.slice (some ⟨g, 0, none⟩) p.length cap, .int .i64 a] w fun e w' => ∃ g', e = .returned (.slice (some ⟨g', 0, none⟩) (p.length + 1) (p.length + 1)) ∧ Row w' g' .i64 (casts (times p a)) ∧ Below w.heap.size w w' ∧ w.heap.size ≤ g' := by
  obtain ⟨n, hn⟩ : ∃ n, n = p.length := ⟨_, rfl⟩
  rw [← hn] at hn0
  rw [← hn]
  have hmk := make_run n (by omega)
  have hI0 : Hid (Tm w (w.alloc (.cells (madeCells #[.int .i64 0] (n + 1)) 3)) g w.heap.size p (nx p a 0)) := by
    have hb : Below w.heap.size w (w.alloc (.cells (madeCells #[.int .i64 0] (n + 1)) 3)) := (Below.refl _ _).alloc (Nat.le_refl _) _
    refine ⟨?_, hr.below hb, hb, Nat.le_refl _, by have := hr.lt; omega⟩
    rw [nx_zero, ← hn]
    exact row_made w (n + 1)
  have HMUL : Hid (∀ c w, c < 128 → Calls Try.prog 23 #[.int .i64 (c : Nat), .int .i64 (a : Nat)] w fun e w' => e = .returned (.int .i64 (mul c a : Nat)) ∧ w' = w) := fun c w hc => by
    have := refMul_is c a w
    rw [r7_natR hc, r7_natR ha] at this
    exact this
  have HL := Lib.hid hl
  have HN := Lib.hid hn
  clear hr hl ha hn
  go_enter Try.func40, Try.ntmps40
  go_upto_region 2 with (fail)
  generalize w.alloc (.cells (madeCells #[.int .i64 0] (n + 1)) 3) = W at *
  generalize hq : w.heap.size = g' at *
  clear hmk
  go_wp2
  go_loopw [6] (fun j wr => ∃ m : Nat, m ≤ n ∧ j = .int .i64 m ∧ Hid (Tm w wr g g' p (nx p a m))) (fun j _ => n - (intOf j).toNat)
  case atStart => exact ⟨0, by omega, rfl, hI0⟩
  case round =>
    clear hI0
    obtain ⟨m, hm, rfl, hI⟩ := hrel
    obtain ⟨wo, rfl⟩ : ∃ wo : World, wo = wr := ⟨_, rfl⟩
    by_cases hml : m < n
    · have hc0 := hI.out.old.at_ m (by rw [casts_length, ← HN.out]; exact hml)
      rw [casts_get] at hc0
      obtain ⟨C, hC⟩ : ∃ C, C = p.getD m 0 := ⟨_, rfl⟩
      have hCl : C < 128 := by rw [hC]; exact getD_low p HL.out m
      rw [← hC] at hc0
      have hc1 := hI.out.row.at_ (m + 1) (by rw [casts_length, nx_length, ← HN.out]; omega)
      rw [casts_get, nx_get _ _ _ _ (by rw [← HN.out]; omega), if_neg (by omega), if_neg (by omega)] at hc1
      have hf1 := hI.out.row.free (m + 1) (by rw [casts_length, nx_length, ← HN.out]; omega)
      have hxo1 : bits BinOp.xor .i64 0 (C : Int) = (C : Int) := by
        have := xor_i64 0 C (by decide) (by omega)
        rw [Nat.zero_xor] at this
        exact this
      have hI1 : Hid (∀ nq, Tm w ((wo.drewN nq).setCell ⟨g', m + 1, none⟩ (.int .i64 (C : Int))) g g' p ((nx p a m).set (m + 1) C)) := fun nq => (hI.out.drewN nq).set (m + 1) C (by rw [nx_length, ← HN.out]; omega)
      have HC := Lib.hid hC
      clear hI hC
      go_wp2_with fail
      refine wp_region_quiet_tail 14 (by kernel_rfl) (by kernel_rfl) ?_
      simp only [List.take_succ_cons, List.take_zero, List.drop_succ_cons, List.drop_zero]
      repeat (go_big_quiet_step (fail))
      refine wpQuiet_nil ?_
      intro _ hw'
      obtain ⟨nq, hw''⟩ := hw'
      subst hw''
      have hJ : Hid (Tm w ((wo.drewN nq).setCell ⟨g', m + 1, none⟩ (.int .i64 (C : Int))) g g' p ((nx p a m).set (m + 1) C)) := hI1.out nq
      go_upto_region 6 with (fail)
      generalize (wo.drewN nq).setCell ⟨g', m + 1, none⟩ (.int .i64 (C : Int)) = W3 at *
      clear hI1 hc0 hc1 hf1 hxo1
      have hc0 := hJ.out.old.at_ m (by rw [casts_length, ← HN.out]; exact hml)
      rw [casts_get, ← HC.out] at hc0
      have hc2 := hJ.out.row.at_ m (by rw [casts_length, List.length_set, nx_length, ← HN.out]; omega)
      have hf2 := hJ.out.row.free m (by rw [casts_length, List.length_set, nx_length, ← HN.out]; omega)
      have hval : ((nx p a m).set (m + 1) C).getD m 0 = prev p m := by
        rw [List.getD_eq_getElem?_getD, List.getElem?_set_ne (by omega), ← List.getD_eq_getElem?_getD, nx_get _ _ _ _ (by rw [← HN.out]; omega), if_neg (by omega), if_pos rfl]
      rw [casts_get, hval] at hc2
      obtain ⟨V, hV⟩ : ∃ V, V = prev p m := ⟨_, rfl⟩
      have hVl : V < 128 := by rw [hV]; exact prev_lt p HL.out m
      rw [← hV] at hc2
      obtain ⟨M, hM⟩ : ∃ M, M = mul C a := ⟨_, rfl⟩
      have hMl : M < 128 := by rw [hM]; exact mul_lt _ _
      have q2 : ∀ n, Calls Try.prog 23 #[.int .i64 C, .int .i64 a] (W3.drewN n) fun e w'' => e = .returned (.int .i64 (M : Nat)) ∧ ∃ m, w'' = W3.drewN m := fun n => (HMUL.out C _ hCl).mono fun e w' ⟨h1, h2⟩ => ⟨by rw [hM]; exact h1, n, h2⟩
      have hxo2 := xor_i64 V M (by omega) (by omega)
      have hN : ∀ nq, Hid (Tm w ((W3.drewN nq).setCell ⟨g', m, none⟩ (.int .i64 ((V ^^^ M : Nat) : Int))) g g' p (nx p a (m + 1))) := fun nq => by
        show Tm w _ g g' p _
        have h := (hJ.out.drewN nq).set m (V ^^^ M) (by rw [List.length_set, nx_length, ← HN.out]; omega)
        have hst := nx_step p a m (by rw [← HN.out]; exact hml)
        rw [Nat.zero_xor, ← HC.out, ← hV, ← hM] at hst
        rw [hst] at h
        exact h
      clear hval hV hM hJ HC
      have Q2 := Lib.hid q2
      clear q2
      refine wp_region_quiet_tail 14 (by kernel_rfl) (by kernel_rfl) ?_
      simp only [List.take_succ_cons, List.take_zero, List.drop_succ_cons, List.drop_zero]
      repeat (go_big_quiet_step (with_reducible exact Q2.out _))
      refine wpQuiet_nil ?_
      intro _ hw'
      obtain ⟨nq2, hw''⟩ := hw'
      subst hw''
      have hN1 := hN nq2
      clear hN Q2
      go_wp2
      go_roundw
      case rel => exact ⟨m + 1, by omega, by go_num, hN1⟩
      case measure => simp [intOf]; omega
    · obtain rfl : m = n := by omega
      have hfin : Hid (Tm w wo g g' p (times p a)) := by
        show Tm w wo g g' p _
        unfold times
        rw [← HN.out]; exact hI.out
      clear hI
      go_wp2
      go_ret
      rw [hq]
      exact ⟨g', rfl, hfin.out.row, by rw [← hq]; exact hfin.out.below, Nat.le_refl _⟩
end Go.Proofs.Ythponlnklmhbeaa
