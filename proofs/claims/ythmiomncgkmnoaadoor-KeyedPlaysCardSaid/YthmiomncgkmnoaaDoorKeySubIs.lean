/- A band's subset, in and out of range: keyed.Subset. -/
import Derived.Test.YthmiomncgkmnoaaDoorKeySub
set_option linter.unusedVariables false
set_option linter.unusedSimpArgs false
namespace Go.Proofs.YthmiomncgkmnoaaDoor
open Go.RowKit Go.Sort Sip Kd
set_option maxRecDepth 100000 in
set_option maxHeartbeats 3200000 in
theorem subset_out (kl : List Nat) (hk : kl.length = 16) (n B T : Int) (hB : B < 0 ∨ 8 ≤ B ∨ T < 0 ∨ 7 < T) (w : World) :
    Calls Tryd.prog 31 #[.agg (keyV kl), .int .i64 n, .int .i64 B, .int .i64 T] w fun e w' => e = .returned (.agg (bV 4 fun _ => false)) ∧ Below w.heap.size w w' := by
  have hz := zero47
  obtain ⟨W, hWe, hW, h0, h1, h2⟩ := sub_start kl w
  have hW := Lib.hid hW
  have hWE := Lib.hid hWe
  obtain ⟨G, hGe⟩ : ∃ G, G = bV 4 fun _ => false := ⟨_, rfl⟩
  have hs5 : Hid ((Tryd.prog.info? 47).map (·.size) = some G.size) := by show _ = _; rw [hGe]; exact size47 _
  have hone : Hid (G.all (·.oneCell') = true) := by show _ = _; rw [hGe]; exact bV_one _ _
  rw [← hGe] at h1 h2 hz hWE
  rw [← hGe]
  have h1 := Lib.hid h1
  have h2 := Lib.hid h2
  clear hk hWe h0 hGe
  have main : ∀ d, d = decide (B < 0) → Calls Tryd.prog 31 #[.agg (keyV kl), .int .i64 n, .int .i64 B, .int .i64 T] w fun e w' => e = .returned (.agg G) ∧ Below w.heap.size w w' := by
    intro d hd
    go_enter Tryd.func31, Tryd.ntmps31
    go_upto_region 2 with (fail)
    rw [← hWE.out]
    clear hWE
    obtain ⟨c, hc0⟩ : ∃ c, c = w.heap.size + 2 := ⟨_, rfl⟩
    obtain ⟨r, hr0⟩ : ∃ r, r = w.heap.size + 1 := ⟨_, rfl⟩
    have hnr : Hid (w.heap.size ≤ r ∧ w.heap.size ≤ c ∧ r ≠ c) := by show w.heap.size ≤ r ∧ w.heap.size ≤ c ∧ r ≠ c; omega
    first | rw [show w.heap.size + 1 + 1 = c by omega] | rw [← hc0]
    rw [← hc0] at h2
    rw [← hr0] at h1
    rw [← hr0]
    clear hr0 hc0
    obtain ⟨b, hb0⟩ : ∃ b, b = w.heap.size := ⟨_, rfl⟩
    rw [← hb0]
    clear hb0
    have HD : Hid ((W.setRow r G).heap[r]? = some (.cells G 47 (0, 0)) ∧ Below w.heap.size w (W.setRow r G)) :=
      ⟨setRow_heap W r _ _ 47 _ h1.out, (Keep.setRow W r _ [r] (by simp)).below hW.out (by intro j hj; rw [List.mem_singleton] at hj; rw [hj]; exact hnr.out.1)⟩
    have hcur := h2.out
    have hres := h1.out
    clear hnr h1 h2
    subst hd
    by_cases b1 : B < 0
    · go_wp2_with (first | (refine wpList_load_row rfl 47 _ rfl c rfl 47 G (0, 0) _ hcur Tryd.underlying47 rfl hs5.out ?_) | (refine wpList_store_row rfl 47 _ _ rfl r G rfl rfl 47 _ hres hs5.out rfl hone.out ?_))
      exact bodyPost_ret (v := .agg G) (results_cell_row Tryd.results31 _ _ r 47 _ (0, 0) _ rfl HD.out.1 Tryd.underlying47 rfl hs5.out) rfl ⟨rfl, HD.out.2⟩
    · by_cases b2 : 8 ≤ B
      · go_wp2_with (first | (refine wpList_load_row rfl 47 _ rfl c rfl 47 G (0, 0) _ hcur Tryd.underlying47 rfl hs5.out ?_) | (refine wpList_store_row rfl 47 _ _ rfl r G rfl rfl 47 _ hres hs5.out rfl hone.out ?_))
        exact bodyPost_ret (v := .agg G) (results_cell_row Tryd.results31 _ _ r 47 _ (0, 0) _ rfl HD.out.1 Tryd.underlying47 rfl hs5.out) rfl ⟨rfl, HD.out.2⟩
      · by_cases b3 : T < 0
        · go_wp2_with (first | (refine wpList_load_row rfl 47 _ rfl c rfl 47 G (0, 0) _ hcur Tryd.underlying47 rfl hs5.out ?_) | (refine wpList_store_row rfl 47 _ _ rfl r G rfl rfl 47 _ hres hs5.out rfl hone.out ?_))
          exact bodyPost_ret (v := .agg G) (results_cell_row Tryd.results31 _ _ r 47 _ (0, 0) _ rfl HD.out.1 Tryd.underlying47 rfl hs5.out) rfl ⟨rfl, HD.out.2⟩
        · have b4 : 7 < T := by omega
          go_wp2_with (first | (refine wpList_load_row rfl 47 _ rfl c rfl 47 G (0, 0) _ hcur Tryd.underlying47 rfl hs5.out ?_) | (refine wpList_store_row rfl 47 _ _ rfl r G rfl rfl 47 _ hres hs5.out rfl hone.out ?_))
          exact bodyPost_ret (v := .agg G) (results_cell_row Tryd.results31 _ _ r 47 _ (0, 0) _ rfl HD.out.1 Tryd.underlying47 rfl hs5.out) rfl ⟨rfl, HD.out.2⟩
  exact main _ rfl
/-- The walk of keyed.Subset. -/
theorem subset_is (kl : List Nat) (hk : kl.length = 16) (hb : Bytes kl) (n B T : Int) (w : World) (hg : Signs w) :
    Calls Tryd.prog 31 #[.agg (keyV kl), .int .i64 n, .int .i64 B, .int .i64 T] w fun e w' => e = .returned (.agg (bV 4 (sub kl n B T))) ∧ Below w.heap.size w w' := by
  unfold sub
  by_cases h : B < 0 ∨ 8 ≤ B ∨ T < 0 ∨ 7 < T
  · rw [if_pos h]
    exact subset_out kl hk n B T h w
  · rw [if_neg h]
    have := subset_in kl hk hb n B.toNat T.toNat (by omega) (by omega) w hg
    rw [show ((B.toNat : Nat) : Int) = B by omega, show ((T.toNat : Nat) : Int) = T by omega] at this
    exact this
end Go.Proofs.YthmiomncgkmnoaaDoor
