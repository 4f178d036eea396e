/- A band's subset: the walk of keyed.Subset. -/
import Derived.Test.YthmiomncgkmnoaaDoorKeyChipsIs
import Derived.Test.YthmiomncgkmnoaaDoorKeyOnce
set_option linter.unusedVariables false
set_option linter.unusedSimpArgs false
namespace Go.Proofs.YthmiomncgkmnoaaDoor
open Go.RowKit Go.Sort Sip Kd
namespace Kd
def sbits (x b : Nat) : Nat → Bool := fun i => x.testBit (4 * b + i)
def sbk (x b k : Nat) : Nat → Bool := fun i => if i < k then sbits x b i else false
def sba (x b k : Nat) : Bool := (List.range k).any (sbits x b)
def sbf (x b : Nat) : Nat → Bool := fun m => if m = 0 then (sbits x b 0 || !sba x b 4) else sbits x b m
/-- A subset: of a band, and a bit's number. -/
def sub (kl : List Nat) (n band bit : Int) : Nat → Bool := if band < 0 ∨ 8 ≤ band ∨ bit < 0 ∨ 7 < bit then fun _ => false else sbf (num kl 115 (fr n * 8 + band.toNat)) bit.toNat
end Kd
theorem sbk_zero (x b : Nat) : sbk x b 0 = fun _ => false := by funext i; simp [sbk]
theorem sbk_step (x b k : Nat) : sbk x b (k + 1) = fun m => if m = k then sbits x b k else sbk x b k m := by
  funext m
  unfold sbk
  by_cases e : m = k
  · subst e; rw [if_pos (by omega), if_pos rfl]
  · rw [if_neg e]
    by_cases h2 : m < k
    · rw [if_pos h2, if_pos (by omega)]
    · rw [if_neg h2, if_neg (by omega)]
theorem sba_step (x b k : Nat) : sba x b (k + 1) = (sba x b k || sbits x b k) := by
  unfold sba
  rw [List.range_succ, List.any_append, List.any_cons, List.any_nil, Bool.or_false]
theorem bV_size (n : Nat) (f : Nat → Bool) : (bV n f).size = n := by simp [bV]
theorem bV_one (n : Nat) (f : Nat → Bool) : (bV n f).all (·.oneCell') = true := by simp [bV, Value.oneCell']
theorem bV_congr {n : Nat} {f g : Nat → Bool} (h : ∀ i, i < n → f i = g i) : bV n f = bV n g := by
  unfold bV
  congr 1
  apply List.map_congr_left
  intro i hi
  rw [h i (List.mem_range.1 hi)]
theorem size47 (f : Nat → Bool) : (Tryd.prog.info? 47).map (·.size) = some (bV 4 f).size := by rw [bV_size]; kernel_rfl
theorem zero47 : ∀ w, (zeroValue 47).run Tryd.prog w = .ok (.agg (bV 4 fun _ => false)) w := by
  have h : (Tryd.prog.info? 47).map (fun i => i.zero) = some (some (.agg (bV 4 fun _ => false))) := by kernel_rfl
  intro w
  obtain ⟨i, hi, hz⟩ := Option.map_eq_some_iff.1 h
  simp [zeroValue, typeInfo, hi, hz]
/-- The blocks of Subset: the number at p, the result at r, the bits at c. -/
structure Sb (w0 w : World) (p r c x : Nat) (f : Nat → Bool) : Prop where
  num : w.cell? ⟨p, 0, none⟩ = some (.int .u64 (x : Nat))
  res : w.heap[r]? = some (.cells (bV 4 fun _ => false) 47 (0, 0))
  cur : w.heap[c]? = some (.cells (bV 4 f) 47 (0, 0))
  below : Below w0.heap.size w0 w
  new : w0.heap.size ≤ r ∧ w0.heap.size ≤ c
  ne : r ≠ c ∧ p ≠ c ∧ p ≠ r
theorem Sb.set {w0 w : World} {p r c x : Nat} {f : Nat → Bool} (h : Sb w0 w p r c x f) (i : Nat) (b : Bool) : Sb w0 (w.setCell ⟨c, i, none⟩ (.bool b)) p r c x (fun m => if m = i then b else f m) := by
  have := heap_setCell_same w c i _ 47 (.bool b) h.cur
  rw [bV_set] at this
  exact ⟨(World.cell?_of_block (Below.heap_setCell _ _ _ _ h.ne.2.1)).trans h.num, (Below.heap_setCell _ _ _ _ h.ne.1).trans h.res, this, below_gb h.below (gb_setCell _ ⟨c, i, none⟩ _) h.below.size h.new.2, h.new, h.ne⟩
theorem Sb.done {w0 w : World} {p r c x : Nat} {f : Nat → Bool} (h : Sb w0 w p r c x f) (g : Nat → Bool) : (w.setRow r (bV 4 g)).heap[r]? = some (.cells (bV 4 g) 47 (0, 0)) ∧ Below w0.heap.size w0 (w.setRow r (bV 4 g)) :=
  ⟨setRow_heap w r _ _ 47 _ h.res, (Keep.setRow w r _ [r] (by simp)).below h.below (by intro j hj; rw [List.mem_singleton] at hj; rw [hj]; exact h.new.1)⟩
/-- The world behind the key and the two rows. -/
theorem sub_start (kl : List Nat) (w : World) : ∃ W, W = ((w.alloc (.cells (keyV kl) 23)).alloc (.cells (bV 4 fun _ => false) 47)).alloc (.cells (bV 4 fun _ => false) 47) ∧ Below w.heap.size w W ∧
    W.heap[w.heap.size]? = some (.cells (keyV kl) 23 (0, 0)) ∧ W.heap[w.heap.size + 1]? = some (.cells (bV 4 fun _ => false) 47 (0, 0)) ∧ W.heap[w.heap.size + 2]? = some (.cells (bV 4 fun _ => false) 47 (0, 0)) := by
  refine ⟨_, rfl, (((Below.refl _ _).alloc (Nat.le_refl _) _).alloc (by simp) _).alloc (by simp; omega) _, ?_, ?_, ?_⟩
  · rw [Go.heap_alloc_old _ _ (by simp; omega), Go.heap_alloc_old _ _ (by simp)]; exact heap_alloc_new w _
  · rw [Go.heap_alloc_old _ _ (by simp)]
    have := heap_alloc_new (w.alloc (.cells (keyV kl) 23)) (.cells (bV 4 fun _ => false) 47)
    rw [World.size_alloc] at this
    exact this
  · have := heap_alloc_new ((w.alloc (.cells (keyV kl) 23)).alloc (.cells (bV 4 fun _ => false) 47)) (.cells (bV 4 fun _ => false) 47)
    rw [World.size_alloc, World.size_alloc] at this
    exact this
set_option maxRecDepth 100000 in
set_option maxHeartbeats 3200000 in
theorem subset_in (kl : List Nat) (hk : kl.length = 16) (hb : Bytes kl) (n : Int) (B T : Nat) (hB : B < 8) (hT : T < 8) (w : World) (hg : Signs w) :
    Calls Tryd.prog 31 #[.agg (keyV kl), .int .i64 n, .int .i64 (B : Nat), .int .i64 (T : Nat)] w fun e w' => e = .returned (.agg (bV 4 (sbf (num kl 115 (fr n * 8 + B)) T))) ∧ Below w.heap.size w w' := by
  have hf := fun w => frame_is n w
  obtain ⟨F, hF⟩ : ∃ F, F = fr n := ⟨_, rfl⟩
  have hFl : F < 1016 := by rw [hF]; exact fr_lt n
  rw [← hF] at hf
  rw [← hF]
  have hq : ∀ w, Signs w → Calls Tryd.prog 34 #[.agg (keyV kl), .int .u8 115, .int .i64 ((F : Int) * 8 + (B : Int))] w fun e w' => e = .returned (.int .u64 (num kl 115 (F * 8 + B) : Nat)) ∧ Below w.heap.size w w' := fun w hg => by
    have := num_is kl hk hb 115 (by omega) (F * 8 + B : Nat) w hg
    rw [u64of_nat (F * 8 + B) (by omega), show ((F * 8 + B : Nat) : Int) = (F : Int) * 8 + (B : Int) by omega] at this
    exact this
  have hXl := num_lt64 kl hk hb 115 (by omega) (F * 8 + B)
  obtain ⟨X, hX⟩ : ∃ X, X = num kl 115 (F * 8 + B) := ⟨_, rfl⟩
  rw [← hX] at hq hXl
  rw [← hX]
  obtain ⟨G, hGe⟩ : ∃ G, G = sbf X T := ⟨_, rfl⟩
  rw [← hGe]
  have HGE := Lib.hid hGe
  have hz := zero47
  obtain ⟨W, hWe, hW, h0, h1, h2⟩ := sub_start kl w
  have hW := Lib.hid hW
  have h0 := Lib.hid h0
  have h1 := Lib.hid h1
  have h2 := Lib.hid h2
  have hG : Hid (Signs W) := hg.below hW.out
  have hsz := Lib.hid (size23 kl hk)
  have HQ := Lib.hid hq
  have hbits := fun w => bits_is X w
  have hWE := Lib.hid hWe
  have t1 : decide ((B : Int) < 0) = false := by simp
  have t2 : decide ((T : Int) < 0) = false := by simp
  have t3 : decide ((8 : Int) ≤ (B : Int)) = false := by simp; omega
  have t4 : decide ((7 : Int) < (T : Int)) = false := by simp; omega
  clear hk hb hg hq hX hF hWe hGe
  go_enter Tryd.func31, Tryd.ntmps31
  go_upto_region 2 with (fail)
  rw [← hWE.out]
  clear hWE
  obtain ⟨c, hc0⟩ : ∃ c, c = w.heap.size + 2 := ⟨_, rfl⟩
  obtain ⟨r, hr0⟩ : ∃ r, r = w.heap.size + 1 := ⟨_, rfl⟩
  have hnr : Hid (w.heap.size ≤ r ∧ w.heap.size ≤ c ∧ r ≠ c) := by show w.heap.size ≤ r ∧ w.heap.size ≤ c ∧ r ≠ c; omega
  first | rw [show w.heap.size + 1 + 1 = c by omega] | rw [← hc0]
  rw [← hc0] at h2
  rw [← hr0] at h1
  rw [← hr0]
  clear hr0 hc0
  obtain ⟨b, hb0⟩ : ∃ b, b = w.heap.size := ⟨_, rfl⟩
  rw [← hb0] at h0
  rw [← hb0]
  clear hb0
  go_upto_region 4 with (fail)
  have e1 : Hid (∀ d os, Calls Tryd.prog 33 #[.int .i64 n] (grow (redrawn W d) os) fun e w' => e = .returned (.int .i64 (F : Nat)) ∧ ∃ p : Regrown, w' = grow (redrawn W p.d) p.os) := fun d os => (hf _).mono fun e w' ⟨h1, h2⟩ => ⟨h1, ⟨d, os⟩, h2⟩
  have e2 := Lib.hid fun d os => (HQ.out (grow (redrawn W d) os) (hG.out.below (below_regrown W d os))).regrown_of
  clear HQ
  refine wp_region_below_tail 7 (by kernel_rfl) (by kernel_rfl) ?_
  simp only [List.take_succ_cons, List.take_zero, List.drop_succ_cons, List.drop_zero]
  repeat (first | go_big_quiet_skip | (go_big_quiet_want; refine quiet_load_row 23 (.tmp 4) rfl b rfl 23 (keyV kl) (0, 0) _ h0.out Tryd.underlying23 rfl hsz.out ?_; simp only [Act.put, List.setIfInBounds_toArray, List.set_cons_succ, List.set_cons_zero]; go_big_quiet_on) | go_big_quiet_step (first | (with_reducible exact e1.out _ _) | (with_reducible exact e2.out _ _)))
  refine wpQuiet_nil ?_
  intro _ hw'
  obtain ⟨⟨dq, osq⟩, hw''⟩ := hw'
  subst hw''
  have hbq : Hid (Below W.heap.size W (grow (redrawn W dq) osq)) := below_regrown W dq osq
  generalize grow (redrawn W dq) osq = W5 at *
  clear e1 e2 hf
  go_upto_region 6 with (go_at_call 46; (with_reducible refine (hbits _).mono ?_); rintro e w8 ⟨rfl, rfl⟩)
  have hC : Hid (Sb w (W5.alloc (.cells #[.int .u64 X] 27)) W5.heap.size r c X (sbk X T 0)) := by
    have a1 : Below W5.heap.size W5 (W5.alloc (.cells #[.int .u64 X] 27)) := (Below.refl _ _).alloc (Nat.le_refl _) _
    have b5 := hW.out.trans (hbq.out.mono hW.out.size)
    have l1 := (Array.getElem?_eq_some_iff.1 h1.out).1
    have l3 := (Array.getElem?_eq_some_iff.1 h2.out).1
    have l2 := hbq.out.size
    have c1 : (W5.alloc (.cells #[.int .u64 X] 27)).cell? ⟨W5.heap.size, 0, none⟩ = some (.int .u64 (X : Nat)) := cell_of_row _ _ 0 _ 27 (0, 0) (heap_alloc_new W5 _)
    show Sb w _ _ _ _ _ _
    rw [sbk_zero]
    have hnr' := hnr.out
    refine ⟨c1, (a1.block r (by omega)).trans ((hbq.out.block r l1).trans h1.out), (a1.block c (by omega)).trans ((hbq.out.block c l3).trans h2.out), b5.trans (a1.mono b5.size), ⟨hnr'.1, hnr'.2.1⟩, hnr'.2.2, by omega, by omega⟩
  have hA0 : sba X T 0 = false := rfl
  clear hbits hz h0 h1 h2 hG hW hbq hnr t1 t2 t3 t4
  generalize W5.alloc (.cells #[.int .u64 X] 27) = W6 at *
  generalize W5.heap.size = p at *
  go_wp2
  go_loopw [11, 36] (fun a i wr => ∃ k : Nat, k ≤ 4 ∧ a = .bool (sba X T k) ∧ i = .int .i64 k ∧ Hid (Sb w wr p r c X (sbk X T k))) (fun _ i _ => 4 - (intOf i).toNat)
  case atStart => exact ⟨0, by omega, by rw [hA0], rfl, hC⟩
  case round =>
    clear hC hA0
    obtain ⟨k, hk, rfl, rfl, hA⟩ := hrel
    obtain ⟨wo, rfl⟩ : ∃ wo : World, wo = wr := ⟨_, rfl⟩
    by_cases hlt : k < 4
    · have l1 : wo.cell? ⟨c, k, none⟩ = some (.bool (sbk X T k k)) := (cell_of_row _ _ k _ 47 (0, 0) hA.out.cur).trans (bV_get _ _ k hlt)
      have l2 : wo.frozen? ⟨c, k, none⟩ = false := frozen_of_row _ _ k _ 47 hA.out.cur
      generalize sbk X T k k = q at *
      have hbt := (bit_is X (4 * T + k) hXl (by omega) p wo hA.out.num).mono (fun e w' h => (⟨h.1, h.2.symm⟩ : _ ∧ wo = w'))
      have hst := sbk_step X T k
      have hsa := sba_step X T k
      have hA1 := Lib.hid (hA.out.set k (sbits X T k))
      rw [show X.testBit (4 * T + k) = sbits X T k from rfl, show ((4 * T + k : Nat) : Int) = 4 * (T : Int) + (k : Int) by omega] at hbt
      generalize sbits X T k = V at *
      have hst := Lib.hid hst
      have hsa := Lib.hid hsa
      go_upto_region 10 with (go_at_call 49; (with_reducible refine hbt.mono ?_); rintro e w8 ⟨rfl, rfl⟩)
      generalize wo.setCell ⟨c, k, none⟩ (.bool V) = W7 at *
      have l3 : W7.cell? ⟨c, k, none⟩ = some (.bool V) := by
        rw [cell_of_row _ _ k _ 47 (0, 0) hA1.out.cur, bV_get _ _ k hlt, if_pos rfl]
      have l4 : W7.frozen? ⟨c, k, none⟩ = false := frozen_of_row _ _ k _ 47 hA1.out.cur
      have hN : Hid (Sb w W7 p r c X (sbk X T (k + 1))) := by show Sb w W7 p r c X _; rw [hst.out]; exact hA1.out
      clear hA hbt l1 l2 hA1 hst
      generalize sba X T k = A at *
      cases A with
      | true =>
        go_wp2
        go_roundw
        case rel => exact ⟨k + 1, by omega, by rw [hsa.out]; rfl, by go_num, hN⟩
        case measure => simp [intOf]; omega
      | false =>
        go_wp2
        go_roundw
        case rel => exact ⟨k + 1, by omega, by rw [hsa.out]; rfl, by go_num, hN⟩
        case measure => simp [intOf]; omega
    · obtain rfl : k = 4 := by omega
      have l1 : wo.cell? ⟨c, 0, none⟩ = some (.bool (sbits X T 0)) := (cell_of_row _ _ 0 _ 47 (0, 0) hA.out.cur).trans (bV_get _ _ 0 (by omega))
      have l2 : wo.frozen? ⟨c, 0, none⟩ = false := frozen_of_row _ _ 0 _ 47 hA.out.cur
      have hA1 := hA.out.set 0 (sbits X T 0 || !sba X T 4)
      have hcg : bV 4 (fun m => if m = 0 then (sbits X T 0 || !sba X T 4) else sbk X T 4 m) = bV 4 G := by rw [HGE.out]; exact bV_congr fun i hi => by simp [sbf, sbk, hi]
      have hA1 : Hid (Sb w (wo.setCell ⟨c, 0, none⟩ (.bool (sbits X T 0 || !sba X T 4))) p r c X G) := by
        refine ⟨hA1.num, hA1.res, ?_, hA1.below, hA1.new, hA1.ne⟩
        rw [← hcg]; exact hA1.cur
      generalize sbits X T 0 = V at *
      generalize sba X T 4 = A at *
      clear hA hcg
      have hold : Hid ((bV 4 fun _ => false).size = (bV 4 G).size) := by show (bV 4 _).size = (bV 4 _).size; rw [bV_size, bV_size]
      have hs5 := Lib.hid (size47 G)
      have hfin : Hid (∀ W7, Sb w W7 p r c X G → (W7.setRow r (bV 4 G)).heap[r]? = some (.cells (bV 4 G) 47 (0, 0)) ∧ Below w.heap.size w (W7.setRow r (bV 4 G))) := fun W7 h => h.done _
      cases V with
      | true =>
        go_upto_region 13 with (fail)
        simp only [Bool.true_or] at hA1
        generalize wo.setCell ⟨c, 0, none⟩ (.bool true) = W7 at *
        have hcur := hA1.out.cur
        have hres := hA1.out.res
        have HD := Lib.hid (hfin.out _ hA1.out)
        clear hA1 hfin
        go_wp2_with (first | (refine wpList_load_row rfl 47 _ rfl c rfl 47 (bV 4 G) (0, 0) _ hcur Tryd.underlying47 rfl hs5.out ?_) | (refine wpList_store_row rfl 47 _ _ rfl r (bV 4 G) rfl rfl 47 _ hres hs5.out hold.out (bV_one 4 G) ?_))
        exact bodyPost_ret (v := .agg (bV 4 G)) (results_cell_row Tryd.results31 _ _ r 47 _ (0, 0) _ rfl HD.out.1 Tryd.underlying47 rfl hs5.out) rfl ⟨rfl, HD.out.2⟩
      | false =>
        go_upto_region 13 with (fail)
        simp only [Bool.false_or] at hA1
        generalize wo.setCell ⟨c, 0, none⟩ (.bool !A) = W7 at *
        have hcur := hA1.out.cur
        have hres := hA1.out.res
        have HD := Lib.hid (hfin.out _ hA1.out)
        clear hA1 hfin
        go_wp2_with (first | (refine wpList_load_row rfl 47 _ rfl c rfl 47 (bV 4 G) (0, 0) _ hcur Tryd.underlying47 rfl hs5.out ?_) | (refine wpList_store_row rfl 47 _ _ rfl r (bV 4 G) rfl rfl 47 _ hres hs5.out hold.out (bV_one 4 G) ?_))
        exact bodyPost_ret (v := .agg (bV 4 G)) (results_cell_row Tryd.results31 _ _ r 47 _ (0, 0) _ rfl HD.out.1 Tryd.underlying47 rfl hs5.out) rfl ⟨rfl, HD.out.2⟩
end Go.Proofs.YthmiomncgkmnoaaDoor
