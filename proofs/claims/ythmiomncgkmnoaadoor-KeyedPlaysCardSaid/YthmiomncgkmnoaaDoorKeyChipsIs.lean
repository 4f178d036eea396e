/- The walk of keyed.Chips. -/
import Derived.Test.YthmiomncgkmnoaaDoorKeyChips
set_option linter.unusedVariables false
set_option linter.unusedSimpArgs false
namespace Go.Proofs.YthmiomncgkmnoaaDoor
open Go.RowKit Go.Sort Sip Kd
set_option maxRecDepth 100000 in
set_option maxHeartbeats 3200000 in
theorem chips_is (kl : List Nat) (hk : kl.length = 16) (hb : Bytes kl) (n : Int) (w : World) (hg : Signs w) :
    Calls Tryd.prog 32 #[.agg (keyV kl), .int .i64 n] w fun e w' => e = .returned (.agg (chv (chip (num kl 99 (fr n))))) ∧ Below w.heap.size w w' := by
  have hf := fun w => frame_is n w
  obtain ⟨F, hF⟩ : ∃ F, F = fr n := ⟨_, rfl⟩
  have hFl : F < 1016 := by rw [hF]; exact fr_lt n
  rw [← hF] at hf
  rw [← hF]
  have hq : ∀ w, Signs w → Calls Tryd.prog 34 #[.agg (keyV kl), .int .u8 99, .int .i64 (F : Nat)] w fun e w' => e = .returned (.int .u64 (num kl 99 F : Nat)) ∧ Below w.heap.size w w' := fun w hg => by
    have := num_is kl hk hb 99 (by omega) F w hg
    rw [u64of_nat F (by omega)] at this
    exact this
  have hXl := num_lt64 kl hk hb 99 (by omega) F
  obtain ⟨X, hX⟩ : ∃ X, X = num kl 99 F := ⟨_, rfl⟩
  rw [← hX] at hq hXl
  rw [← hX]
  have hz := zero50
  have hW : Hid (Below w.heap.size w ((w.alloc (.cells (keyV kl) 23)).alloc (.cells (chv fun _ => 0) 50))) := ((Below.refl _ _).alloc (Nat.le_refl _) _).alloc (by simp) _
  have h0 : Hid (((w.alloc (.cells (keyV kl) 23)).alloc (.cells (chv fun _ => 0) 50)).heap[w.heap.size]? = some (.cells (keyV kl) 23 (0, 0))) := (((Below.refl _ _).alloc (Nat.le_refl _) _ : Below (w.alloc (.cells (keyV kl) 23)).heap.size (w.alloc (.cells (keyV kl) 23)) _).block _ (by simp)).trans (heap_alloc_new w _)
  have h1 : Hid (((w.alloc (.cells (keyV kl) 23)).alloc (.cells (chv fun _ => 0) 50)).heap[w.heap.size + 1]? = some (.cells (chv fun _ => 0) 50 (0, 0))) := by
    have := heap_alloc_new (w.alloc (.cells (keyV kl) 23)) (.cells (chv fun _ => 0) 50)
    rw [World.size_alloc] at this
    exact this
  have hG : Hid (Signs ((w.alloc (.cells (keyV kl) 23)).alloc (.cells (chv fun _ => 0) 50))) := hg.below hW.out
  have hsz := Lib.hid (size23 kl hk)
  have HQ := Lib.hid hq
  have hbits := fun w => bits_is X w
  clear hk hb hg hq hX hF
  go_enter Tryd.func32, Tryd.ntmps32
  go_upto_region 1 with (fail)
  generalize (w.alloc (.cells (keyV kl) 23)).alloc (.cells (chv fun _ => 0) 50) = W at *
  obtain ⟨r, hr0⟩ : ∃ r, r = w.heap.size + 1 := ⟨_, rfl⟩
  have hnr : Hid (w.heap.size ≤ r) := by show w.heap.size ≤ r; omega
  rw [← hr0] at h1
  rw [← hr0]
  clear hr0
  obtain ⟨b, hb0⟩ : ∃ b, b = w.heap.size := ⟨_, rfl⟩
  rw [← hb0] at h0
  rw [← hb0]
  clear hb0
  have e1 : Hid (∀ d os, Calls Tryd.prog 33 #[.int .i64 n] (grow (redrawn W d) os) fun e w' => e = .returned (.int .i64 (F : Nat)) ∧ ∃ p : Regrown, w' = grow (redrawn W p.d) p.os) := fun d os => (hf _).mono fun e w' ⟨h1, h2⟩ => ⟨h1, ⟨d, os⟩, h2⟩
  have e2 := Lib.hid fun d os => (HQ.out (grow (redrawn W d) os) (hG.out.below (below_regrown W d os))).regrown_of
  clear HQ
  refine wp_region_below_tail 4 (by kernel_rfl) (by kernel_rfl) ?_
  simp only [List.take_succ_cons, List.take_zero, List.drop_succ_cons, List.drop_zero]
  repeat (first | go_big_quiet_skip | (go_big_quiet_want; refine quiet_load_row 23 (.tmp 2) rfl b rfl 23 (keyV kl) (0, 0) _ h0.out Tryd.underlying23 rfl hsz.out ?_; simp only [Act.put, List.setIfInBounds_toArray, List.set_cons_succ, List.set_cons_zero]; go_big_quiet_on) | go_big_quiet_step (first | (with_reducible exact e1.out _ _) | (with_reducible exact e2.out _ _)))
  refine wpQuiet_nil ?_
  intro _ hw'
  obtain ⟨⟨dq, osq⟩, hw''⟩ := hw'
  subst hw''
  have hbq : Hid (Below W.heap.size W (grow (redrawn W dq) osq)) := below_regrown W dq osq
  generalize grow (redrawn W dq) osq = W5 at *
  clear e1 e2 hf
  go_upto_region 3 with (go_at_call 46; (with_reducible refine (hbits _).mono ?_); rintro e w8 ⟨rfl, rfl⟩)
  have hC : Hid (Ch w ((W5.alloc (.cells #[.int .u64 X] 27)).alloc (.cells (chv fun _ => 0) 50)) W5.heap.size r (W5.heap.size + 1) X (chk X 0)) := by
    have a1 : Below W5.heap.size W5 (W5.alloc (.cells #[.int .u64 X] 27)) := (Below.refl _ _).alloc (Nat.le_refl _) _
    have a2 : Below (W5.alloc (.cells #[.int .u64 X] 27)).heap.size (W5.alloc (.cells #[.int .u64 X] 27)) ((W5.alloc (.cells #[.int .u64 X] 27)).alloc (.cells (chv fun _ => 0) 50)) := (Below.refl _ _).alloc (Nat.le_refl _) _
    have a3 := a1.alloc a1.size (.cells (chv fun _ => 0) 50)
    have b5 := hW.out.trans (hbq.out.mono hW.out.size)
    have l1 := (Array.getElem?_eq_some_iff.1 h1.out).1
    have l2 := hbq.out.size
    have c1 : (W5.alloc (.cells #[.int .u64 X] 27)).cell? ⟨W5.heap.size, 0, none⟩ = some (.int .u64 (X : Nat)) := cell_of_row _ _ 0 _ 27 (0, 0) (heap_alloc_new W5 _)
    have c2 := heap_alloc_new (W5.alloc (.cells #[.int .u64 X] 27)) (.cells (chv fun _ => 0) 50)
    rw [World.size_alloc] at c2
    show Ch w _ _ _ _ _ _
    rw [chk_zero]
    refine ⟨(a2.cell (by simp)).trans c1, (a3.block r (by omega)).trans ((hbq.out.block r l1).trans h1.out), c2, b5.trans (a3.mono b5.size), ⟨hnr.out, by have := b5.size; omega⟩, by omega, by omega, by omega⟩
  clear hbits hz h0 h1 hG hW hbq hnr
  generalize (W5.alloc (.cells #[.int .u64 X] 27)).alloc (.cells (chv fun _ => 0) 50) = W6 at *
  generalize W5.heap.size + 1 = c at *
  generalize W5.heap.size = p at *
  go_wp2
  go_loopw [13] (fun i wr => ∃ k : Nat, k ≤ 4 ∧ i = .int .i64 k ∧ Hid (Ch w wr p r c X (chk X k))) (fun i _ => 4 - (intOf i).toNat)
  case atStart => exact ⟨0, by omega, rfl, hC⟩
  case round =>
    clear hC
    obtain ⟨k, hk, rfl, hA⟩ := hrel
    obtain ⟨wo, rfl⟩ : ∃ wo : World, wo = wr := ⟨_, rfl⟩
    by_cases hlt : k < 4
    · have l1 : wo.cell? ⟨c, k, none⟩ = some (.int .i64 (chk X k k)) := (cell_of_row _ _ k _ 50 (0, 0) hA.out.cur).trans (chv_get _ k hlt)
      have l2 : wo.frozen? ⟨c, k, none⟩ = false := frozen_of_row _ _ k _ 50 hA.out.cur
      generalize chk X k k = q at *
      have hA1 := Lib.hid (hA.out.set k 1)
      have hbt := fun w h => bit_is X k hXl (by omega) p w h
      have hst := chk_step X k
      unfold chip at hst
      go_upto_region 7 with (fail)
      generalize wo.setCell ⟨c, k, none⟩ (.int .i64 1) = W7 at *
      have hb7 := hbt W7 hA1.out.num
      have l3 : W7.cell? ⟨c, k, none⟩ = some (.int .i64 1) := by
        rw [cell_of_row _ _ k _ 50 (0, 0) hA1.out.cur, chv_get _ k hlt, if_pos rfl]
      have l4 : W7.frozen? ⟨c, k, none⟩ = false := frozen_of_row _ _ k _ 50 hA1.out.cur
      clear hA hbt l1 l2
      cases hT : X.testBit k with
      | true =>
        rw [hT] at hb7 hst
        rw [if_pos rfl] at hst
        have hN : Hid (Ch w (W7.setCell ⟨c, k, none⟩ (.int .i64 (-1))) p r c X (chk X (k + 1))) := by
          have := hA1.out.set k (-1)
          show Ch w _ p r c X _
          rw [hst]
          have e : (fun m => if m = k then (-1 : Int) else if m = k then 1 else chk X k m) = fun m => if m = k then -1 else chk X k m := by
            funext m; split <;> rfl
          rw [e] at this
          exact this
        clear hA1 hst hT
        go_wp2_with (go_at_call 49; (with_reducible refine hb7.mono ?_); rintro e w8 ⟨rfl, rfl⟩)
        go_roundw
        case rel => exact ⟨k + 1, by omega, by go_num, hN⟩
        case measure => simp [intOf]; omega
      | false =>
        rw [hT] at hb7 hst
        rw [if_neg (by decide)] at hst
        have hN : Hid (Ch w W7 p r c X (chk X (k + 1))) := by show Ch w _ p r c X _; rw [hst]; exact hA1.out
        clear hA1 hst hT
        go_wp2_with (go_at_call 49; (with_reducible refine hb7.mono ?_); rintro e w8 ⟨rfl, rfl⟩)
        go_roundw
        case rel => exact ⟨k + 1, by omega, by go_num, hN⟩
        case measure => simp [intOf]; omega
    · obtain rfl : k = 4 := by omega
      have hcg : chv (chk X 4) = chv (chip X) := chv_congr fun i hi => by simp [chk, hi]
      have hcur := hA.out.cur
      rw [hcg] at hcur
      have hres := hA.out.res
      obtain ⟨h1, h2⟩ := hA.out.done (chip X)
      have HD := Lib.hid (And.intro h1 h2)
      have hs5 := Lib.hid (size50 (chip X))
      have hold : Hid ((chv fun _ => 0).size = (chv (chip X)).size) := by show (chv _).size = (chv _).size; rw [chv_size, chv_size]
      clear hA h1 h2 hcg
      go_wp2_with (first | (refine wpList_load_row rfl 50 _ rfl c rfl 50 (chv (chip X)) (0, 0) _ hcur Tryd.underlying50 rfl hs5.out ?_) | (refine wpList_store_row rfl 50 _ _ rfl r (chv (chip X)) rfl rfl 50 _ hres hs5.out hold.out (chv_one (chip X)) ?_))
      exact bodyPost_ret (v := .agg (chv (chip X))) (results_cell_row Tryd.results32 _ _ r 50 _ (0, 0) _ rfl HD.out.1 Tryd.underlying50 rfl hs5.out) rfl ⟨rfl, HD.out.2⟩
end Go.Proofs.YthmiomncgkmnoaaDoor
