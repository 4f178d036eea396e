/- The document's subset: its walk. -/
import Derived.Test.YthmiomncgkmnoaaDoorKeyRefBand
import Derived.Test.YthmiomncgkmnoaaDoorKeySubIs
set_option linter.unusedVariables false
set_option linter.unusedSimpArgs false
namespace Go.Proofs.YthmiomncgkmnoaaDoor
open Go.RowKit Go.Sort Sip Kd
namespace Kd
def scn (x b : Nat) : Nat → Nat
  | 0 => 0
  | k + 1 => scn x b k + if sbits x b k = true then 1 else 0
end Kd
theorem scn_le (x b : Nat) : ∀ k, scn x b k ≤ k
  | 0 => Nat.le_refl _
  | k + 1 => by
    have := scn_le x b k
    rw [scn]
    split <;> omega
theorem scn_zero (x b : Nat) : ∀ k, (scn x b k = 0) ↔ sba x b k = false
  | 0 => ⟨fun _ => rfl, fun _ => rfl⟩
  | k + 1 => by
    have h := scn_zero x b k
    rw [scn, sba_step]
    cases hb : sbits x b k with
    | true => simp
    | false => simpa using h
/-- The blocks of the document's Subset: the result at r, the bits at c. -/
structure Sr (w0 w : World) (r c : Nat) (f : Nat → Bool) : Prop where
  res : w.heap[r]? = some (.cells (bV 4 fun _ => false) 47 (0, 0))
  cur : w.heap[c]? = some (.cells (bV 4 f) 47 (0, 0))
  below : Below w0.heap.size w0 w
  new : w0.heap.size ≤ r ∧ w0.heap.size ≤ c
  ne : r ≠ c
theorem Sr.set {w0 w : World} {r c : Nat} {f : Nat → Bool} (h : Sr w0 w r c f) (i : Nat) (b : Bool) : Sr w0 (w.setCell ⟨c, i, none⟩ (.bool b)) r c (fun m => if m = i then b else f m) := by
  have := heap_setCell_same w c i _ 47 (.bool b) h.cur
  rw [bV_set] at this
  exact ⟨(Below.heap_setCell _ _ _ _ h.ne).trans h.res, this, below_gb h.below (gb_setCell _ ⟨c, i, none⟩ _) h.below.size h.new.2, h.new, h.ne⟩
theorem Sr.done {w0 w : World} {r c : Nat} {f : Nat → Bool} (h : Sr w0 w r c f) (g : Nat → Bool) : (w.setRow r (bV 4 g)).heap[r]? = some (.cells (bV 4 g) 47 (0, 0)) ∧ Below w0.heap.size w0 (w.setRow r (bV 4 g)) :=
  ⟨setRow_heap w r _ _ 47 _ h.res, (Keep.setRow w r _ [r] (by simp)).below h.below (by intro j hj; rw [List.mem_singleton] at hj; rw [hj]; exact h.new.1)⟩
theorem ref_start (kl : List Nat) (w : World) : ∃ W, W = (w.alloc (.cells (keyV kl) 23)).alloc (.cells (bV 4 fun _ => false) 47) ∧ Below w.heap.size w W ∧
    W.heap[w.heap.size]? = some (.cells (keyV kl) 23 (0, 0)) ∧ W.heap[w.heap.size + 1]? = some (.cells (bV 4 fun _ => false) 47 (0, 0)) := by
  refine ⟨_, rfl, ((Below.refl _ _).alloc (Nat.le_refl _) _).alloc (by simp) _, ?_, ?_⟩
  · rw [Go.heap_alloc_old _ _ (by simp)]; exact heap_alloc_new w _
  · have := heap_alloc_new (w.alloc (.cells (keyV kl) 23)) (.cells (bV 4 fun _ => false) 47)
    rw [World.size_alloc] at this
    exact this
set_option maxRecDepth 100000 in
set_option maxHeartbeats 3200000 in
theorem refSubset_in (kl : List Nat) (hk : kl.length = 16) (hb : Bytes kl) (n : Int) (B T : Nat) (hB : B < 8) (hT : T < 8) (w : World) :
    Calls Tryd.prog 41 #[.agg (keyV kl), .int .i64 n, .int .i64 (B : Nat), .int .i64 (T : Nat)] w fun e w' => e = .returned (.agg (bV 4 (sbf (num kl 115 (fr n * 8 + B)) T))) ∧ Below w.heap.size w w' := by
  have hf := fun w => refFrame_is n w
  obtain ⟨F, hF⟩ : ∃ F, F = fr n := ⟨_, rfl⟩
  have hFl : F < 1016 := by rw [hF]; exact fr_lt n
  rw [← hF] at hf
  rw [← hF]
  have hq : ∀ w, Calls Tryd.prog 35 #[.agg (keyV kl), .int .u8 115, .int .i64 ((F : Int) * 8 + (B : Int))] w fun e w' => e = .returned (.int .u64 (num kl 115 (F * 8 + B) : Nat)) ∧ Below w.heap.size w w' := fun w => by
    have := refNum_is kl hk hb 115 (by omega) (F * 8 + B : Nat) w
    rw [u64of_nat (F * 8 + B) (by omega), show ((F * 8 + B : Nat) : Int) = (F : Int) * 8 + (B : Int) by omega] at this
    exact this
  have hXl := num_lt64 kl hk hb 115 (by omega) (F * 8 + B)
  obtain ⟨X, hX⟩ : ∃ X, X = num kl 115 (F * 8 + B) := ⟨_, rfl⟩
  rw [← hX] at hq hXl
  rw [← hX]
  obtain ⟨G, hGe⟩ : ∃ G, G = sbf X T := ⟨_, rfl⟩
  rw [← hGe]
  have HGE := Lib.hid hGe
  have hz := zero47
  obtain ⟨W, hWe, hW, h0, h1⟩ := ref_start kl w
  have hW := Lib.hid hW
  have h0 := Lib.hid h0
  have h1 := Lib.hid h1
  have hsz := Lib.hid (size23 kl hk)
  have HQ := Lib.hid hq
  have hWE := Lib.hid hWe
  have t1 : decide ((B : Int) < 0) = false := by simp
  have t2 : decide ((T : Int) < 0) = false := by simp
  have t3 : decide ((7 : Int) < (B : Int)) = false := by simp; omega
  have t4 : decide ((7 : Int) < (T : Int)) = false := by simp; omega
  clear hk hb hq hX hF hWe hGe
  go_enter Tryd.func41, Tryd.ntmps41
  go_upto_region 1 with (fail)
  rw [← hWE.out]
  clear hWE
  obtain ⟨r, hr0⟩ : ∃ r, r = w.heap.size + 1 := ⟨_, rfl⟩
  have hnr : Hid (w.heap.size ≤ r) := by show w.heap.size ≤ r; omega
  rw [← hr0] at h1
  rw [← hr0]
  clear hr0
  obtain ⟨b, hb0⟩ : ∃ b, b = w.heap.size := ⟨_, rfl⟩
  rw [← hb0] at h0
  rw [← hb0]
  clear hb0
  go_upto_region 3 with (fail)
  have e1 : Hid (∀ d os, Calls Tryd.prog 36 #[.int .i64 n] (grow (redrawn W d) os) fun e w' => e = .returned (.int .i64 (F : Nat)) ∧ ∃ p : Regrown, w' = grow (redrawn W p.d) p.os) := fun d os => (hf _).mono fun e w' ⟨h1, h2⟩ => ⟨h1, ⟨d, os⟩, h2⟩
  have e2 := Lib.hid fun d os => (HQ.out (grow (redrawn W d) os)).regrown_of
  clear HQ
  refine wp_region_below_tail 7 (by kernel_rfl) (by kernel_rfl) ?_
  simp only [List.take_succ_cons, List.take_zero, List.drop_succ_cons, List.drop_zero]
  repeat (first | go_big_quiet_skip | (go_big_quiet_want; refine quiet_load_row 23 (.tmp 4) rfl b rfl 23 (keyV kl) (0, 0) _ h0.out Tryd.underlying23 rfl hsz.out ?_; simp only [Act.put, List.setIfInBounds_toArray, List.set_cons_succ, List.set_cons_zero]; go_big_quiet_on) | go_big_quiet_step (first | (with_reducible exact e1.out _ _) | (with_reducible exact e2.out _ _)))
  refine wpQuiet_nil ?_
  intro _ hw'
  obtain ⟨⟨dq, osq⟩, hw''⟩ := hw'
  subst hw''
  have hbq : Hid (Below W.heap.size W (grow (redrawn W dq) osq)) := below_regrown W dq osq
  generalize grow (redrawn W dq) osq = W5 at *
  clear e1 e2 hf
  go_upto_region 6 with (fail)
  have hC : Hid (Sr w (W5.alloc (.cells (bV 4 fun _ => false) 47)) r W5.heap.size (sbk X T 0)) := by
    have a1 : Below W5.heap.size W5 (W5.alloc (.cells (bV 4 fun _ => false) 47)) := (Below.refl _ _).alloc (Nat.le_refl _) _
    have b5 := hW.out.trans (hbq.out.mono hW.out.size)
    have l1 := (Array.getElem?_eq_some_iff.1 h1.out).1
    have l2 := hbq.out.size
    show Sr w _ _ _ _
    rw [sbk_zero]
    exact ⟨(a1.block r (by omega)).trans ((hbq.out.block r l1).trans h1.out), heap_alloc_new W5 _, b5.trans (a1.mono b5.size), ⟨hnr.out, b5.size⟩, by omega⟩
  have hA0 : scn X T 0 = 0 := rfl
  clear hz h0 h1 hW hbq hnr t1 t2 t3 t4
  generalize W5.alloc (.cells (bV 4 fun _ => false) 47) = W6 at *
  generalize W5.heap.size = c at *
  go_wp2
  go_loopw [11, 12] (fun a i wr => ∃ k : Nat, k ≤ 4 ∧ a = .int .i64 (scn X T k : Nat) ∧ i = .int .i64 k ∧ Hid (Sr w wr r c (sbk X T k))) (fun _ i _ => 4 - (intOf i).toNat)
  case atStart => exact ⟨0, by omega, by rw [hA0]; rfl, rfl, hC⟩
  case round =>
    clear hC hA0
    obtain ⟨k, hk, rfl, rfl, hA⟩ := hrel
    obtain ⟨wo, rfl⟩ : ∃ wo : World, wo = wr := ⟨_, rfl⟩
    by_cases hlt : k < 4
    · have l1 : wo.cell? ⟨c, k, none⟩ = some (.bool (sbk X T k k)) := (cell_of_row _ _ k _ 47 (0, 0) hA.out.cur).trans (bV_get _ _ k hlt)
      have l2 : wo.frozen? ⟨c, k, none⟩ = false := frozen_of_row _ _ k _ 47 hA.out.cur
      generalize sbk X T k k = q at *
      have hbt := fun w => (refBit_is X (4 * T + k) hXl (by omega) w).mono (fun e w' h => (⟨h.1, h.2.symm⟩ : _ ∧ w = w'))
      have hst := sbk_step X T k
      have hsn : scn X T (k + 1) = scn X T k + if sbits X T k = true then 1 else 0 := rfl
      have hsl := scn_le X T k
      have hA1 := Lib.hid (hA.out.set k (sbits X T k))
      rw [show X.testBit (4 * T + k) = sbits X T k from rfl, show ((4 * T + k : Nat) : Int) = 4 * (T : Int) + (k : Int) by omega] at hbt
      generalize sbits X T k = V at *
      generalize scn X T k = A at *
      cases V with
      | true =>
        have HSN : Hid (scn X T (k + 1) = A + 1) := by rw [if_pos rfl] at hsn; exact hsn
        have hbt1 : ∀ w, Calls Tryd.prog 47 #[.int .u64 (X : Nat), .int .i64 (4 * (T : Int) + (k : Int))] w fun e w' => e = .returned (.int .i64 1) ∧ w = w' := fun w => by
          have := hbt w
          rw [if_pos rfl] at this
          exact this
        have hN : Hid (Sr w (wo.setCell ⟨c, k, none⟩ (.bool true)) r c (sbk X T (k + 1))) := by show Sr w _ r c _; rw [hst]; exact hA1.out
        clear hbt hst hA hA1 hsn
        go_wp2_with (go_at_call 47; (with_reducible refine (hbt1 _).mono ?_); rintro e w8 ⟨rfl, h8⟩; subst h8)
        go_roundw
        case rel => exact ⟨k + 1, by omega, by rw [HSN.out]; go_num, by go_num, hN⟩
        case measure => simp [intOf]; omega
      | false =>
        have HSN : Hid (scn X T (k + 1) = A) := by rw [if_neg (by decide)] at hsn; exact hsn
        have hbt1 : ∀ w, Calls Tryd.prog 47 #[.int .u64 (X : Nat), .int .i64 (4 * (T : Int) + (k : Int))] w fun e w' => e = .returned (.int .i64 0) ∧ w = w' := fun w => by
          have := hbt w
          rw [if_neg (by decide)] at this
          exact this
        have hN : Hid (Sr w (wo.setCell ⟨c, k, none⟩ (.bool false)) r c (sbk X T (k + 1))) := by show Sr w _ r c _; rw [hst]; exact hA1.out
        clear hbt hst hA hA1 hsn
        go_wp2_with (go_at_call 47; (with_reducible refine (hbt1 _).mono ?_); rintro e w8 ⟨rfl, h8⟩; subst h8)
        go_roundw
        case rel => exact ⟨k + 1, by omega, by rw [HSN.out], by go_num, hN⟩
        case measure => simp [intOf]; omega
    · obtain rfl : k = 4 := by omega
      have l1 : wo.cell? ⟨c, 0, none⟩ = some (.bool (sbits X T 0)) := (cell_of_row _ _ 0 _ 47 (0, 0) hA.out.cur).trans (bV_get _ _ 0 (by omega))
      have l2 : wo.frozen? ⟨c, 0, none⟩ = false := frozen_of_row _ _ 0 _ 47 hA.out.cur
      have hold : Hid ((bV 4 fun _ => false).size = (bV 4 G).size) := by show (bV 4 _).size = (bV 4 _).size; rw [bV_size, bV_size]
      have hs5 := Lib.hid (size47 G)
      have hz := scn_zero X T 4
      by_cases hA0 : scn X T 4 = 0
      · have hs := hz.1 hA0
        have hA1 := hA.out.set 0 true
        have hcg : bV 4 (fun m => if m = 0 then true else sbk X T 4 m) = bV 4 G := by
          rw [HGE.out]; exact bV_congr fun i hi => by simp [sbf, sbk, hi, hs]
        have hA1 : Hid (Sr w (wo.setCell ⟨c, 0, none⟩ (.bool true)) r c G) := by
          refine ⟨hA1.res, ?_, hA1.below, hA1.new, hA1.ne⟩
          rw [← hcg]; exact hA1.cur
        rw [hA0]
        generalize sbits X T 0 = V at *
        clear hA hcg hz hs hA0
        go_upto_region 13 with (fail)
        generalize wo.setCell ⟨c, 0, none⟩ (.bool true) = W7 at *
        have hcur := hA1.out.cur
        have hres := hA1.out.res
        have HD := Lib.hid (hA1.out.done G)
        clear hA1
        go_wp2_with (first | (refine wpList_load_row rfl 47 _ rfl c rfl 47 (bV 4 G) (0, 0) _ hcur Tryd.underlying47 rfl hs5.out ?_) | (refine wpList_store_row rfl 47 _ _ rfl r (bV 4 G) rfl rfl 47 _ hres hs5.out hold.out (bV_one 4 G) ?_))
        exact bodyPost_ret (v := .agg (bV 4 G)) (results_cell_row Tryd.results41 _ _ r 47 _ (0, 0) _ rfl HD.out.1 Tryd.underlying47 rfl hs5.out) rfl ⟨rfl, HD.out.2⟩
      · have hs : sba X T 4 = true := by
          cases h : sba X T 4 with
          | true => rfl
          | false => exact (hA0 (hz.2 h)).elim
        have hcg : bV 4 (sbk X T 4) = bV 4 G := by
          rw [HGE.out]; exact bV_congr fun i hi => by
            by_cases e : i = 0
            · subst e; simp [sbf, sbk, hs]
            · simp [sbf, sbk, hi, e]
        have hA1 : Hid (Sr w wo r c G) := ⟨hA.out.res, by rw [← hcg]; exact hA.out.cur, hA.out.below, hA.out.new, hA.out.ne⟩
        generalize scn X T 4 = A at *
        clear hA hcg hz hs l1 l2
        have hcur := hA1.out.cur
        have hres := hA1.out.res
        have HD := Lib.hid (hA1.out.done G)
        clear hA1
        go_wp2_with (first | (refine wpList_load_row rfl 47 _ rfl c rfl 47 (bV 4 G) (0, 0) _ hcur Tryd.underlying47 rfl hs5.out ?_) | (refine wpList_store_row rfl 47 _ _ rfl r (bV 4 G) rfl rfl 47 _ hres hs5.out hold.out (bV_one 4 G) ?_))
        exact bodyPost_ret (v := .agg (bV 4 G)) (results_cell_row Tryd.results41 _ _ r 47 _ (0, 0) _ rfl HD.out.1 Tryd.underlying47 rfl hs5.out) rfl ⟨rfl, HD.out.2⟩
set_option maxRecDepth 100000 in
set_option maxHeartbeats 3200000 in
theorem refSubset_out (kl : List Nat) (hk : kl.length = 16) (n B T : Int) (hB : B < 0 ∨ 8 ≤ B ∨ T < 0 ∨ 7 < T) (w : World) :
    Calls Tryd.prog 41 #[.agg (keyV kl), .int .i64 n, .int .i64 B, .int .i64 T] w fun e w' => e = .returned (.agg (bV 4 fun _ => false)) ∧ Below w.heap.size w w' := by
  have hz := zero47
  obtain ⟨W, hWe, hW, h0, h1⟩ := ref_start kl w
  have hW := Lib.hid hW
  have hWE := Lib.hid hWe
  obtain ⟨G, hGe⟩ : ∃ G, G = bV 4 fun _ => false := ⟨_, rfl⟩
  have hs5 : Hid ((Tryd.prog.info? 47).map (·.size) = some G.size) := by show _ = _; rw [hGe]; exact size47 _
  have hone : Hid (G.all (·.oneCell') = true) := by show _ = _; rw [hGe]; exact bV_one _ _
  rw [← hGe] at h1 hz hWE
  rw [← hGe]
  have h1 := Lib.hid h1
  clear hk hWe h0 hGe
  have main : ∀ d, d = decide (B < 0) → Calls Tryd.prog 41 #[.agg (keyV kl), .int .i64 n, .int .i64 B, .int .i64 T] w fun e w' => e = .returned (.agg G) ∧ Below w.heap.size w w' := by
    intro d hd
    go_enter Tryd.func41, Tryd.ntmps41
    go_upto_region 1 with (fail)
    rw [← hWE.out]
    clear hWE
    obtain ⟨r, hr0⟩ : ∃ r, r = w.heap.size + 1 := ⟨_, rfl⟩
    have hnr : Hid (w.heap.size ≤ r) := by show w.heap.size ≤ r; omega
    rw [← hr0] at h1
    rw [← hr0]
    clear hr0
    obtain ⟨b, hb0⟩ : ∃ b, b = w.heap.size := ⟨_, rfl⟩
    rw [← hb0]
    clear hb0
    have HD : Hid ((W.setRow r G).heap[r]? = some (.cells G 47 (0, 0)) ∧ Below w.heap.size w (W.setRow r G)) :=
      ⟨setRow_heap W r _ _ 47 _ h1.out, (Keep.setRow W r _ [r] (by simp)).below hW.out (by intro j hj; rw [List.mem_singleton] at hj; rw [hj]; exact hnr.out)⟩
    have hres := h1.out
    clear hnr h1
    subst hd
    by_cases b1 : B < 0
    · go_wp2_with (refine wpList_store_row rfl 47 _ _ rfl r G rfl rfl 47 _ hres hs5.out rfl hone.out ?_)
      exact bodyPost_ret (v := .agg G) (results_cell_row Tryd.results41 _ _ r 47 _ (0, 0) _ rfl HD.out.1 Tryd.underlying47 rfl hs5.out) rfl ⟨rfl, HD.out.2⟩
    · by_cases b2 : 7 < B
      · go_wp2_with (refine wpList_store_row rfl 47 _ _ rfl r G rfl rfl 47 _ hres hs5.out rfl hone.out ?_)
        exact bodyPost_ret (v := .agg G) (results_cell_row Tryd.results41 _ _ r 47 _ (0, 0) _ rfl HD.out.1 Tryd.underlying47 rfl hs5.out) rfl ⟨rfl, HD.out.2⟩
      · by_cases b3 : T < 0
        · go_wp2_with (refine wpList_store_row rfl 47 _ _ rfl r G rfl rfl 47 _ hres hs5.out rfl hone.out ?_)
          exact bodyPost_ret (v := .agg G) (results_cell_row Tryd.results41 _ _ r 47 _ (0, 0) _ rfl HD.out.1 Tryd.underlying47 rfl hs5.out) rfl ⟨rfl, HD.out.2⟩
        · have b4 : 7 < T := by omega
          go_wp2_with (refine wpList_store_row rfl 47 _ _ rfl r G rfl rfl 47 _ hres hs5.out rfl hone.out ?_)
          exact bodyPost_ret (v := .agg G) (results_cell_row Tryd.results41 _ _ r 47 _ (0, 0) _ rfl HD.out.1 Tryd.underlying47 rfl hs5.out) rfl ⟨rfl, HD.out.2⟩
  exact main _ rfl
/-- The walk of the document's Subset. -/
theorem refSubset_is (kl : List Nat) (hk : kl.length = 16) (hb : Bytes kl) (n B T : Int) (w : World) :
    Calls Tryd.prog 41 #[.agg (keyV kl), .int .i64 n, .int .i64 B, .int .i64 T] w fun e w' => e = .returned (.agg (bV 4 (sub kl n B T))) ∧ Below w.heap.size w w' := by
  unfold sub
  by_cases h : B < 0 ∨ 8 ≤ B ∨ T < 0 ∨ 7 < T
  · rw [if_pos h]
    exact refSubset_out kl hk n B T h w
  · rw [if_neg h]
    have := refSubset_in kl hk hb n B.toNat T.toNat (by omega) (by omega) w
    rw [show ((B.toNat : Nat) : Int) = B by omega, show ((T.toNat : Nat) : Int) = T by omega] at this
    exact this
end Go.Proofs.YthmiomncgkmnoaaDoor
