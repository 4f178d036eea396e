/- The law SipPlays: its walk. -/
import Derived.Test.YthmiomncgkmnoaaDoorSipEndLaw
import Derived.Lib.QuietBelow
set_option linter.unusedVariables false
set_option linter.unusedSimpArgs false
namespace Go.Proofs.YthmiomncgkmnoaaDoor
open Go.RowKit Go.Sort Sip
theorem key16 (kl : List Nat) (h : kl.length = 16) : ∃ k0 k1 k2 k3 k4 k5 k6 k7 k8 k9 k10 k11 k12 k13 k14 k15, kl = [k0, k1, k2, k3, k4, k5, k6, k7, k8, k9, k10, k11, k12, k13, k14, k15] := by
  match kl, h with
  | [k0, k1, k2, k3, k4, k5, k6, k7, k8, k9, k10, k11, k12, k13, k14, k15], _ => exact ⟨k0, k1, k2, k3, k4, k5, k6, k7, k8, k9, k10, k11, k12, k13, k14, k15, rfl⟩
set_option maxRecDepth 100000 in
set_option maxHeartbeats 3200000 in
theorem sipPlays_walk (kl : List Nat) (s : ByteArray) (w : World) (hk : kl.length = 16) (hb : Bytes kl) (ys : s.size ≤ maxLen) (hg : Signs w) :
    Calls Tryd.prog 3 #[.agg (keyV kl), .string s] w fun e w' => e = .returned (.bool true) ∧ Below w.heap.size w w' := by
  unfold maxLen at ys
  have HG := Lib.hid hg
  obtain ⟨B, hB⟩ : ∃ B, B = w.heap.size := ⟨_, rfl⟩
  obtain ⟨W, hW⟩ : ∃ W, W = w.alloc (.cells (keyV kl) 23) := ⟨_, rfl⟩
  have HBW : Hid (Below w.heap.size w W) := by show Below w.heap.size w W; rw [hW]; exact (Below.refl _ _).alloc (Nat.le_refl _) _
  have HKR : Hid (W.heap[B]? = some (.cells (keyV kl) 23 (0, 0)) ∧ B < W.heap.size) := by
    show _ ∧ _
    rw [hW, hB]; exact ⟨heap_alloc_new w _, by simp⟩
  have hgW := hg.below HBW.out
  have hA : ∀ wx, Hid (Below W.heap.size W wx) → Calls Tryd.prog 15 #[] wx fun e w' => e = .returned (.bool true) ∧ Below W.heap.size W w' := fun wx hx => (sipAwake_is wx (hgW.below hx.out)).mono fun _ _ ⟨h1, h2⟩ => ⟨h1, hx.out.trans (h2.mono hx.out.size)⟩
  have HB0 := Lib.hid (Below.refl W.heap.size W)
  have HGW := Lib.hid hgW
  have HW := Lib.hid hW
  have hB' := hB.symm
  clear hg hgW hB hW
  by_cases hs : s.size ≤ 3000
  · have c1 := fun w => words_is s (by omega) w
    have c2 := fun w => refWords_is s (by omega) w
    have d1 := fun w => sum_is kl hk hb s (by omega) w
    have d2 := fun w => refSum_is kl hk hb s (by omega) w
    obtain ⟨A, hA'⟩ : ∃ A, A = words (bs s) := ⟨_, rfl⟩
    obtain ⟨n, hn⟩ : ∃ n, n = A.length := ⟨_, rfl⟩
    have hnl : n ≤ 500 := by rw [hn, hA', words_length, bs_length]; omega
    rw [← hA'] at c1 c2 d1 d2
    rw [← hn] at c1 c2
    obtain ⟨V, hV⟩ : ∃ V, V = sumW (le (kl.take 8)) (le (kl.drop 8)) A := ⟨_, rfl⟩
    rw [← hV] at d1 d2
    have HN := Lib.hid hn
    obtain ⟨k0, k1, k2, k3, k4, k5, k6, k7, k8, k9, k10, k11, k12, k13, k14, k15, rfl⟩ := key16 kl hk
    clear hA' hn hV hk hb
    go_enter Tryd.func3, Tryd.ntmps3
    go_upto_region 1 with (fail)
    rw [← HW.out]
    clear HW hB'
    go_wp2_with (first | (go_at_call 15; (with_reducible refine (hA _ (by assumption)).mono ?_); rintro e w1 ⟨rfl, hb1⟩; have HB1 := Lib.hid hb1; clear hb1) | (go_at_call 16; (with_reducible refine (c1 _).mono ?_); rintro e w2 ⟨g1, k1', rfl, ho1⟩; have HO1 := Lib.hid ho1; clear ho1 c1) | (go_at_call 17; (with_reducible refine (c2 _).mono ?_); rintro e w3 ⟨g2, k2', rfl, ho2⟩; have HO2 := Lib.hid ho2; clear ho2 c2))
    have HB3 : Hid (Below W.heap.size W w3) := by
      show Below W.heap.size W w3
      have e1 := HO1.out.below
      have e2 := HO2.out.below
      exact (HB1.out.trans (e1.mono HB1.out.size)).trans (e2.mono (by have := HB1.out.size; have := e1.size; omega))
    have HK3 : Hid (w3.heap[B]? = some (.cells (keyV [k0, k1, k2, k3, k4, k5, k6, k7, k8, k9, k10, k11, k12, k13, k14, k15]) 23 (0, 0))) := (HB3.out.block B HKR.out.2).trans HKR.out.1
    have hgs : Hid (Signs w3) := HGW.out.below HB3.out
    go_loopw [7] (fun i wr => ∃ k : Nat, k ≤ n ∧ i = .int .i64 k ∧ Hid (∃ q, wr = w3.drewN q)) (fun i _ => n - (intOf i).toNat)
    case atStart => exact ⟨0, by omega, rfl, Lib.hid ⟨0, rfl⟩⟩
    case round =>
      obtain ⟨k, hk, rfl, hw⟩ := hrel
      have hbw : Below w3.heap.size w3 wr := by obtain ⟨q, rfl⟩ := hw.out; exact below_drewN' (Below.refl _ _) q
      by_cases hlt : k < n
      · have d1' := HO1.out.at_ HN.out ((HO2.out.below).trans (hbw.mono HO2.out.below.size)) k hlt
        have d2' := HO2.out.at_ HN.out hbw k hlt
        obtain ⟨X, hX⟩ : ∃ X, X = A.getD k 0 := ⟨_, rfl⟩
        rw [← hX] at d1' d2'
        clear hX hbw d1 d2
        go_wp2
        go_quiet (fail)
        go_wp2
        go_roundw
        case rel => exact ⟨k + 1, by omega, by go_num, Lib.hid (by obtain ⟨q, rfl⟩ := hw.out; exact ⟨_, drew2 _ _ _⟩)⟩
        case measure => simp [intOf]; omega
      · obtain rfl : k = n := by omega
        have hrow : wr.heap[B]? = some (.cells (keyV [k0, k1, k2, k3, k4, k5, k6, k7, k8, k9, k10, k11, k12, k13, k14, k15]) 23 (0, 0)) := by obtain ⟨q, rfl⟩ := hw.out; exact HK3.out
        have hgw : Signs wr := hgs.out.below hbw
        have cS : ∀ d os, Calls Tryd.prog 18 #[.agg #[.int .u8 k0, .int .u8 k1, .int .u8 k2, .int .u8 k3, .int .u8 k4, .int .u8 k5, .int .u8 k6, .int .u8 k7, .int .u8 k8, .int .u8 k9, .int .u8 k10, .int .u8 k11, .int .u8 k12, .int .u8 k13, .int .u8 k14, .int .u8 k15], .string s] (grow (redrawn wr d) os) fun e w'' => e = .returned (.int .u64 (V : Nat)) ∧ ∃ p : Regrown, w'' = grow (redrawn wr p.d) p.os := fun d os => Calls.regrown_of (d1 _ (hgw.below (below_regrown wr d os)))
        have cR : ∀ d os, Calls Tryd.prog 19 #[.agg #[.int .u8 k0, .int .u8 k1, .int .u8 k2, .int .u8 k3, .int .u8 k4, .int .u8 k5, .int .u8 k6, .int .u8 k7, .int .u8 k8, .int .u8 k9, .int .u8 k10, .int .u8 k11, .int .u8 k12, .int .u8 k13, .int .u8 k14, .int .u8 k15], .string s] (grow (redrawn wr d) os) fun e w'' => e = .returned (.int .u64 (V : Nat)) ∧ ∃ p : Regrown, w'' = grow (redrawn wr p.d) p.os := fun d os => Calls.regrown_of (d2 _)
        have l0 : ∀ d os, (grow (redrawn wr d) os).cell? ⟨B, 0, none⟩ = some (.int .u8 k0) := fun d os => cell_regrown (cell_of_row _ _ 0 _ 23 (0, 0) hrow) d os
        have l1 : ∀ d os, (grow (redrawn wr d) os).cell? ⟨B, 1, none⟩ = some (.int .u8 k1) := fun d os => cell_regrown (cell_of_row _ _ 1 _ 23 (0, 0) hrow) d os
        have l2 : ∀ d os, (grow (redrawn wr d) os).cell? ⟨B, 2, none⟩ = some (.int .u8 k2) := fun d os => cell_regrown (cell_of_row _ _ 2 _ 23 (0, 0) hrow) d os
        have l3 : ∀ d os, (grow (redrawn wr d) os).cell? ⟨B, 3, none⟩ = some (.int .u8 k3) := fun d os => cell_regrown (cell_of_row _ _ 3 _ 23 (0, 0) hrow) d os
        have l4 : ∀ d os, (grow (redrawn wr d) os).cell? ⟨B, 4, none⟩ = some (.int .u8 k4) := fun d os => cell_regrown (cell_of_row _ _ 4 _ 23 (0, 0) hrow) d os
        have l5 : ∀ d os, (grow (redrawn wr d) os).cell? ⟨B, 5, none⟩ = some (.int .u8 k5) := fun d os => cell_regrown (cell_of_row _ _ 5 _ 23 (0, 0) hrow) d os
        have l6 : ∀ d os, (grow (redrawn wr d) os).cell? ⟨B, 6, none⟩ = some (.int .u8 k6) := fun d os => cell_regrown (cell_of_row _ _ 6 _ 23 (0, 0) hrow) d os
        have l7 : ∀ d os, (grow (redrawn wr d) os).cell? ⟨B, 7, none⟩ = some (.int .u8 k7) := fun d os => cell_regrown (cell_of_row _ _ 7 _ 23 (0, 0) hrow) d os
        have l8 : ∀ d os, (grow (redrawn wr d) os).cell? ⟨B, 8, none⟩ = some (.int .u8 k8) := fun d os => cell_regrown (cell_of_row _ _ 8 _ 23 (0, 0) hrow) d os
        have l9 : ∀ d os, (grow (redrawn wr d) os).cell? ⟨B, 9, none⟩ = some (.int .u8 k9) := fun d os => cell_regrown (cell_of_row _ _ 9 _ 23 (0, 0) hrow) d os
        have l10 : ∀ d os, (grow (redrawn wr d) os).cell? ⟨B, 10, none⟩ = some (.int .u8 k10) := fun d os => cell_regrown (cell_of_row _ _ 10 _ 23 (0, 0) hrow) d os
        have l11 : ∀ d os, (grow (redrawn wr d) os).cell? ⟨B, 11, none⟩ = some (.int .u8 k11) := fun d os => cell_regrown (cell_of_row _ _ 11 _ 23 (0, 0) hrow) d os
        have l12 : ∀ d os, (grow (redrawn wr d) os).cell? ⟨B, 12, none⟩ = some (.int .u8 k12) := fun d os => cell_regrown (cell_of_row _ _ 12 _ 23 (0, 0) hrow) d os
        have l13 : ∀ d os, (grow (redrawn wr d) os).cell? ⟨B, 13, none⟩ = some (.int .u8 k13) := fun d os => cell_regrown (cell_of_row _ _ 13 _ 23 (0, 0) hrow) d os
        have l14 : ∀ d os, (grow (redrawn wr d) os).cell? ⟨B, 14, none⟩ = some (.int .u8 k14) := fun d os => cell_regrown (cell_of_row _ _ 14 _ 23 (0, 0) hrow) d os
        have l15 : ∀ d os, (grow (redrawn wr d) os).cell? ⟨B, 15, none⟩ = some (.int .u8 k15) := fun d os => cell_regrown (cell_of_row _ _ 15 _ 23 (0, 0) hrow) d os
        have HBr : Hid (Below W.heap.size W wr) := HB3.out.trans (hbw.mono HB3.out.size)
        clear hrow hgw hbw d1 d2
        go_wp2_with fail
        refine wp_region_quiet_below (by kernel_rfl) (by kernel_rfl) ?_
        repeat (go_big_quiet_step (first | (with_reducible exact cS _ _) | (with_reducible exact cR _ _)))
        refine wpQuiet_nil ?_
        intro _ hw'
        obtain ⟨⟨dq, osq⟩, hw''⟩ := hw'
        subst hw''
        have hbq : Below W.heap.size W (grow (redrawn wr dq) osq) := HBr.out.trans ((below_regrown wr dq osq).mono HBr.out.size)
        go_wp2
        go_ret
        exact ⟨rfl, HBW.out.trans (hbq.mono HBW.out.size)⟩
  · go_enter Tryd.func3, Tryd.ntmps3
    go_upto_region 1 with (fail)
    rw [← HW.out]
    go_wp2_with (first | (go_at_call 15; (with_reducible refine (hA _ (by assumption)).mono ?_); rintro e w1 ⟨rfl, hb1⟩; have HB1 := Lib.hid hb1; clear hb1))
    go_ret
    exact ⟨rfl, HBW.out.trans (HB1.out.mono HBW.out.size)⟩
end Go.Proofs.YthmiomncgkmnoaaDoor
