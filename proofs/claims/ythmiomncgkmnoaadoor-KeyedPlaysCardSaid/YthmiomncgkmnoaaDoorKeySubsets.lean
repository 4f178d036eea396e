/- The law KeyedSubsets: its walk; '==' of chips and of subsets. -/
import Derived.Test.YthmiomncgkmnoaaDoorKeySubIs
import Derived.Test.YthmiomncgkmnoaaDoorEqRows
set_option linter.unusedVariables false
set_option linter.unusedSimpArgs false
namespace Go.Proofs.YthmiomncgkmnoaaDoor
open Go.RowKit Go.Sort Sip Kd
theorem eq_bV (f g : Nat → Bool) (w : World) : (Op.equalIn 10000 47 (.agg (bV 4 f)) (.agg (bV 4 g))).run Tryd.prog w = .ok (decide ((List.range 4).map f = (List.range 4).map g)) w := by
  have e : ∀ f, bV 4 f = (((List.range 4).map f).map Value.bool).toArray := fun f => by rw [List.map_map]; rfl
  rw [e, e]
  refine run_equalIn_list (P := Tryd.prog) Value.bool (d := 9999) Tryd.underlying47 _ _ (by simp) (by simp) w (by kernel_rfl) (by kernel_rfl) fun a b => ?_
  rw [show (9999 : Nat) = 9998 + 1 from rfl, run_equalIn_bool' w 9998 4 a b Tryd.underlying4]
  cases a <;> cases b <;> rfl
theorem eq_chv (f g : Nat → Int) (w : World) : (Op.equalIn 10000 50 (.agg (chv f)) (.agg (chv g))).run Tryd.prog w = .ok (decide ((List.range 4).map f = (List.range 4).map g)) w := by
  have e : ∀ f, chv f = (((List.range 4).map f).map (Value.int .i64)).toArray := fun f => by rw [List.map_map]; rfl
  rw [e, e]
  refine run_equalIn_list (P := Tryd.prog) (Value.int .i64) (d := 9999) Tryd.underlying50 _ _ (by simp) (by simp) w (by kernel_rfl) (by kernel_rfl) fun a b => ?_
  rw [show (9999 : Nat) = 9998 + 1 from rfl, run_equalIn_int w 9998 3 .i64 .i64 a b Tryd.underlying3]
  congr 1
theorem sbf_some (x b : Nat) : (List.range 4).map (sbf x b) ≠ (List.range 4).map fun _ => false := by
  intro h
  have h' := List.map_inj_left.1 h
  have h0 := h' 0 (by simp)
  have hi : ∀ i, i < 4 → sbits x b i = false := by
    intro i hi
    have := h' i (by simpa using hi)
    unfold sbf at this
    by_cases e : i = 0
    · subst e; rw [if_pos rfl, Bool.or_eq_false_iff] at this; exact this.1
    · rw [if_neg e] at this; exact this
  have ha : sba x b 4 = false := by
    unfold sba
    rw [List.any_eq_false]
    intro i hm
    rw [hi i (List.mem_range.1 hm)]
    simp
  unfold sbf at h0
  rw [if_pos rfl, ha] at h0
  simp at h0
/-- In range, and out of it. -/
theorem eq_sub (kl : List Nat) (n B T : Int) : decide ((List.range 4).map (sub kl n B T) = (List.range 4).map fun _ => false) = decide (B < 0 ∨ 8 ≤ B ∨ T < 0 ∨ 7 < T) := by
  unfold sub
  apply decide_eq_decide.2
  by_cases h : B < 0 ∨ 8 ≤ B ∨ T < 0 ∨ 7 < T
  · rw [if_pos h]; exact ⟨fun _ => h, fun _ => rfl⟩
  · rw [if_neg h]; exact ⟨fun h2 => (sbf_some _ _ h2).elim, fun h2 => (h h2).elim⟩
set_option maxRecDepth 100000 in
set_option maxHeartbeats 3200000 in
theorem keyedSubsets_walk (kl : List Nat) (n B T : Int) (w : World) (hk : kl.length = 16) (hb : Bytes kl) (hn : (Lit.int .i64 n).wf = true) (hBw : (Lit.int .i64 B).wf = true) (hTw : (Lit.int .i64 T).wf = true) (hg : Signs w) :
    Calls Tryd.prog 11 #[.agg (keyV kl), .int .i64 n, .int .i64 B, .int .i64 T] w fun e w' => e = .returned (.bool true) ∧ Below w.heap.size w w' := by
  have h0 : Hid ((w.alloc (.cells (keyV kl) 23)).heap[w.heap.size]? = some (.cells (keyV kl) 23 (0, 0))) := heap_alloc_new w _
  have hw0 : Hid (Below w.heap.size w (w.alloc (.cells (keyV kl) 23))) := (Below.refl _ _).alloc (Nat.le_refl _) _
  have hG : Hid (Signs (w.alloc (.cells (keyV kl) 23))) := hg.below hw0.out
  have hsz := Lib.hid (size23 kl hk)
  have ha := keyAwake_is (w.alloc (.cells (keyV kl) 23)) hG.out
  have r1 := Lib.hid fun w hg => subset_is kl hk hb n B T w hg
  have hE := eq_sub kl n B T
  have hz := zero47
  generalize sub kl n B T = S at *
  have hq := fun w => eq_bV S (fun _ => false) w
  obtain ⟨D, hD⟩ : ∃ D, D = decide ((List.range 4).map S = (List.range 4).map fun _ => false) := ⟨_, rfl⟩
  rw [← hD] at hq hE
  have hbld : ∀ w, (zeroValue 47).run Tryd.prog w = .ok (.agg (bV 4 fun _ => false)) w := zero47
  have hs5 := Lib.hid (size47 S)
  have hone := Lib.hid (bV_one 4 S)
  have hold : Hid ((bV 4 fun _ => false).size = (bV 4 S).size) := by show (bV 4 _).size = (bV 4 _).size; rw [bV_size, bV_size]
  obtain ⟨Z, hZ⟩ : ∃ Z, Z = bV 4 fun _ => false := ⟨_, rfl⟩
  obtain ⟨Y, hY⟩ : ∃ Y, Y = bV 4 S := ⟨_, rfl⟩
  rw [← hZ, ← hY] at hq
  rw [← hZ] at hz hold
  rw [← hY] at hs5 hone hold
  have r1 : Hid (∀ w, Signs w → Calls Tryd.prog 31 #[.agg (keyV kl), .int .i64 n, .int .i64 B, .int .i64 T] w fun e w' => e = .returned (.agg Y) ∧ Below w.heap.size w w') := by rw [hY]; exact r1
  have hE : D = decide (B < 0 ∨ 8 ≤ B ∨ T < 0 ∨ 7 < T) := hE
  have main : ∀ d, d = D → Calls Tryd.prog 11 #[.agg (keyV kl), .int .i64 n, .int .i64 B, .int .i64 T] w fun e w' => e = .returned (.bool true) ∧ Below w.heap.size w w' := by
    intro d hd
    rw [← hd] at hq
    have HE2 : Hid (d = decide (B < 0 ∨ 8 ≤ B ∨ T < 0 ∨ 7 < T)) := by rw [hd]; exact hE
    clear hk hb hn hBw hTw hg hZ hY hD hd hbld hE
    go_enter Tryd.func11, Tryd.ntmps11
    go_upto_region 1 with (fail)
    generalize w.alloc (.cells (keyV kl) 23) = W at *
    obtain ⟨b, hb0⟩ : ∃ b, b = w.heap.size := ⟨_, rfl⟩
    rw [← hb0] at h0
    rw [← hb0]
    clear hb0
    go_upto_region 3 with (go_at_call 26; (with_reducible refine ha.mono ?_); rintro e w1 ⟨rfl, hb1⟩; have HB1 := Lib.hid hb1; clear hb1 ha)
    have h1 : w1.heap[b]? = some (.cells (keyV kl) 23 (0, 0)) := (HB1.out.block b (Array.getElem?_eq_some_iff.1 h0.out).1).trans h0.out
    have HBW : Hid (Below w.heap.size w w1) := hw0.out.trans (HB1.out.mono hw0.out.size)
    have q1 := r1.out w1 (hG.out.below HB1.out)
    clear h0 hw0 hG HB1 r1
    go_upto_region 4 with (first | (refine wpList_load_row rfl 23 (.tmp 4) rfl b rfl 23 (keyV kl) (0, 0) _ h1 Tryd.underlying23 rfl hsz.out ?_) | (go_at_call 31; (with_reducible refine q1.mono ?_); rintro e w8 ⟨rfl, hb8⟩; have HB8 := Lib.hid hb8; have hres : (w8.alloc (.cells Z 47)).heap[w8.heap.size]? = some (.cells Z 47 (0, 0)) := heap_alloc_new w8 _; clear hb8 q1) | (refine wpList_store_row rfl 47 _ _ rfl w8.heap.size Y rfl rfl 47 _ hres hs5.out hold.out hone.out ?_))
    have hcur : ((w8.alloc (.cells Z 47)).setRow w8.heap.size Y).heap[w8.heap.size]? = some (.cells Y 47 (0, 0)) := setRow_heap _ _ _ _ 47 _ hres
    have hb9 : Hid (Below w.heap.size w ((w8.alloc (.cells Z 47)).setRow w8.heap.size Y)) := by
      have b8 := HBW.out.trans (HB8.out.mono HBW.out.size)
      exact (Keep.setRow _ w8.heap.size Y [w8.heap.size] (by simp)).below (b8.alloc b8.size _) (by intro j hj; rw [List.mem_singleton] at hj; rw [hj]; exact b8.size)
    generalize (w8.alloc (.cells Z 47)).setRow w8.heap.size Y = W9 at *
    generalize w8.heap.size = p at *
    clear HB8 HBW h1 hres hone hold
    by_cases b1 : B < 0
    · obtain rfl : d = true := by rw [HE2.out]; exact decide_eq_true (by omega)
      go_wp2_with (first | (refine wpList_load_row rfl 47 _ rfl p rfl 47 Y (0, 0) _ hcur Tryd.underlying47 rfl hs5.out ?_) | fail)
      go_ret
      exact ⟨rfl, hb9.out⟩
    · by_cases b2 : 7 < B
      · obtain rfl : d = true := by rw [HE2.out]; exact decide_eq_true (by omega)
        go_wp2_with (first | (refine wpList_load_row rfl 47 _ rfl p rfl 47 Y (0, 0) _ hcur Tryd.underlying47 rfl hs5.out ?_) | fail)
        go_ret
        exact ⟨rfl, hb9.out⟩
      · by_cases b3 : T < 0
        · obtain rfl : d = true := by rw [HE2.out]; exact decide_eq_true (by omega)
          go_wp2_with (first | (refine wpList_load_row rfl 47 _ rfl p rfl 47 Y (0, 0) _ hcur Tryd.underlying47 rfl hs5.out ?_) | fail)
          go_ret
          exact ⟨rfl, hb9.out⟩
        · by_cases b4 : 7 < T
          · obtain rfl : d = true := by rw [HE2.out]; exact decide_eq_true (by omega)
            go_wp2_with (first | (refine wpList_load_row rfl 47 _ rfl p rfl 47 Y (0, 0) _ hcur Tryd.underlying47 rfl hs5.out ?_) | fail)
            go_ret
            exact ⟨rfl, hb9.out⟩
          · obtain rfl : d = false := by rw [HE2.out]; exact decide_eq_false (by omega)
            go_wp2_with (first | (refine wpList_load_row rfl 47 _ rfl p rfl 47 Y (0, 0) _ hcur Tryd.underlying47 rfl hs5.out ?_) | fail)
            go_ret
            exact ⟨rfl, hb9.out⟩
  exact main _ rfl
end Go.Proofs.YthmiomncgkmnoaaDoor
