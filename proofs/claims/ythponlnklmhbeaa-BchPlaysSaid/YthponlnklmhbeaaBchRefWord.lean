/- The walk of the document's Encode. -/
import Derived.Test.YthponlnklmhbeaaBchRefEnc
set_option linter.unusedVariables false
set_option linter.unusedSimpArgs false
namespace Go.Proofs.Ythponlnklmhbeaa
open Go.RowKit Go.Sort F7
set_option maxRecDepth 100000 in
set_option maxHeartbeats 3200000 in
theorem refEncode_is (x : Nat) (hx : x < 2 ^ 64) (w : World) : Calls Try.prog 31 #[.int .u64 x] w fun e w' => e = .returned (.agg (wordV (enc x))) ∧ Below w.heap.size w w' := by
  have hz39 := zero39
  have hz53 := zero53
  have hgen := fun w => refGenerator_is w
  have HX := Lib.hid hx
  clear hx
  have hS0 : Hid (Rc w (((w.alloc (.cells (wordV fun _ => false) 39)).alloc (.cells (wordV fun _ => false) 39)).alloc (.cells (intV fun _ => false) 53)) w.heap.size (w.heap.size + 1) (w.heap.size + 1 + 1) (up x 0) (up x 0)) := by
    have a1 := (Below.refl w.heap.size w).alloc (Nat.le_refl _) (.cells (wordV fun _ => false) 39)
    have h1 := Wd.boxed w 39 fun _ => false
    have h2 := Wd.boxed (w.alloc (.cells (wordV fun _ => false) 39)) 39 fun _ => false
    rw [World.size_alloc] at h2
    have h3 : Wi (((w.alloc (.cells (wordV fun _ => false) 39)).alloc (.cells (wordV fun _ => false) 39)).alloc (.cells (intV fun _ => false) 53)) (w.heap.size + 1 + 1) fun _ => false := by
      have := heap_alloc_new ((w.alloc (.cells (wordV fun _ => false) 39)).alloc (.cells (wordV fun _ => false) 39)) (.cells (intV fun _ => false) 53)
      rw [World.size_alloc, World.size_alloc] at this
      exact this
    show Rc w _ _ _ _ _ _
    rw [up_zero]
    refine ⟨h2.below ((Below.refl _ _).alloc (Nat.le_refl _) _), h3, ?_, ?_, by omega, by omega⟩
    · exact (h1.below ((Below.refl _ _).alloc (Nat.le_refl _) _)).below ((Below.refl _ _).alloc (Nat.le_refl _) _)
    · exact (a1.alloc (by simp) _).alloc (by simp; omega) _
  go_enter Try.func31, Try.ntmps31
  go_upto_region 3 with (fail)
  generalize ((w.alloc (.cells (wordV fun _ => false) 39)).alloc (.cells (wordV fun _ => false) 39)).alloc (.cells (intV fun _ => false) 53) = W at *
  generalize w.heap.size + 1 + 1 = c at *
  generalize w.heap.size + 1 = a at *
  generalize hr0 : w.heap.size = r at *
  clear hz39 hz53
  go_wp2
  go_loopw [0, 5] (fun y i wr => ∃ k : Nat, k ≤ 64 ∧ i = .int .i64 k ∧ y = .int .u64 (x / 2 ^ k : Nat) ∧ Hid (Rc w wr r a c (up x k) (up x k))) (fun _ i _ => 64 - (intOf i).toNat)
  case atStart => exact ⟨0, by omega, rfl, by rw [Nat.pow_zero, Nat.div_one], hS0⟩
  case round =>
    clear hS0
    obtain ⟨k, hk, rfl, rfl, hA⟩ := hrel
    obtain ⟨wo, rfl⟩ : ∃ wo : World, wo = wr := ⟨_, rfl⟩
    by_cases hlt : k < 64
    · have hbit : x.testBit k = decide (x / 2 ^ k % 2 = 1) := Nat.testBit_eq_decide_div_mod_eq
      have hnx : x / 2 ^ (k + 1) = x / 2 ^ k / 2 := by rw [Nat.pow_succ, Nat.div_div_eq_div_mul]
      have hon := up_on x k
      have hoff := up_off x k
      obtain ⟨Y, hY⟩ : ∃ Y, Y = x / 2 ^ k := ⟨_, rfl⟩
      have hYl : Y < 2 ^ 64 := by rw [hY]; exact Nat.lt_of_le_of_lt (Nat.div_le_self _ _) HX.out
      obtain ⟨Z, hZ⟩ : ∃ Z, Z = x / 2 ^ (k + 1) := ⟨_, rfl⟩
      rw [← hY] at hbit hnx
      rw [← hZ] at hnx
      rw [← hY]
      have HZ := Lib.hid hZ
      have hZY : Hid (Value.int .u64 ((Y : Int) / 2) = .int .u64 ((Z : Nat) : Int)) := by show _ = _; rw [hnx]; congr 1
      clear hY hZ hnx
      by_cases h1 : Y % 2 = 1
      · have hY2 : (Y : Int) % 2 = 1 := by omega
        have hN : Hid (Rc w ((wo.setCell ⟨a, 63 + k, none⟩ (.bool true)).setCell ⟨c, 63 + k, none⟩ (.int .i64 1)) r a c (up x (k + 1)) (up x (k + 1))) := by
          show Rc w _ r a c _ _
          rw [hon (by rw [hbit, h1]; rfl)]
          exact (hA.out.setA (63 + k) true).setC (63 + k) true
        have hc1 := hA.out.word.cell (63 + k) (by omega)
        have hf1 := hA.out.word.free (63 + k)
        have hc2 := (hA.out.setA (63 + k) true).rest.cell (63 + k) (by omega)
        have hf2 := (hA.out.setA (63 + k) true).rest.free (63 + k)
        clear hA hbit hon hoff h1
        go_wp2
        go_roundw
        case rel => exact ⟨k + 1, by omega, by go_num, by rw [← HZ.out]; exact hZY.out, hN⟩
        case measure => simp [intOf]; omega
      · have hY2 : (Y : Int) % 2 = 0 := by omega
        have hN : Hid (Rc w wo r a c (up x (k + 1)) (up x (k + 1))) := by
          show Rc w _ r a c _ _
          rw [hoff (by rw [hbit]; exact decide_eq_false h1)]
          exact hA.out
        clear hA hbit hon hoff h1
        go_wp2
        go_roundw
        case rel => exact ⟨k + 1, by omega, by go_num, by rw [← HZ.out]; exact hZY.out, hN⟩
        case measure => simp [intOf]; omega
    · obtain rfl : k = 64 := by omega
      go_upto_region 11 with (go_at_call 30; (with_reducible refine (hgen _).mono ?_); rintro e w1 ⟨g, cap, rfl, hr1, hb1, hg1⟩; have HG := Lib.hid (And.intro hr1 (And.intro hb1 hg1)); clear hr1 hb1 hg1)
      have hE2 : Hid (Rg w w1 r a c g (up x 64) (rd (126 - 126) (up x 64))) := by
        obtain ⟨h1, h2, h3⟩ := HG.out
        have l1 := hA.out.word.lt
        have l2 := hA.out.rest.lt
        exact ⟨hA.out.later h2, h1, by omega, by omega⟩
      clear hA HG hgen
      go_wp2
      go_loopw [7] (fun i wr => ∃ I : Nat, 62 ≤ I ∧ I ≤ 126 ∧ i = .int .i64 I ∧ Hid (Rg w wr r a c g (up x 64) (rd (126 - I) (up x 64)))) (fun i _ => (intOf i - 62).toNat)
      case atStart => exact ⟨126, by omega, by omega, rfl, hE2⟩
      case round =>
        clear hE2
        obtain ⟨I, hI1, hI2, rfl, hA⟩ := hrel
        obtain ⟨wo, rfl⟩ : ∃ wo : World, wo = wr := ⟨_, rfl⟩
        by_cases hlt : 63 ≤ I
        · have hnx : rd (126 - (I - 1)) (up x 64) = if rd (126 - I) (up x 64) I = true then sub (rd (126 - I) (up x 64)) (I - 63) else rd (126 - I) (up x 64) := by
            rw [show 126 - (I - 1) = (126 - I) + 1 by omega, rd, show 126 - (126 - I) = I by omega, show 63 - (126 - I) = I - 63 by omega]
          obtain ⟨f, hf⟩ : ∃ f, f = rd (126 - I) (up x 64) := ⟨_, rfl⟩
          rw [← hf] at hnx hA
          have hc := hA.out.rc.rest.cell I (by omega)
          have hdn : Value.int .i64 ((I : Int) - 1) = .int .i64 ((I - 1 : Nat) : Int) := by rw [show ((I - 1 : Nat) : Int) = (I : Int) - 1 by omega]
          have HDN := Lib.hid hdn
          clear hdn
          cases hb : f I with
          | true =>
            rw [hb] at hc hnx
            change _ = some (Value.int .i64 1) at hc
            rw [if_pos rfl] at hnx
            have HNX := Lib.hid hnx
            obtain ⟨s, hs⟩ : ∃ s, s = I - 63 := ⟨_, rfl⟩
            have hs1 : (I : Int) - 63 = (s : Int) := by omega
            have hs2 : s ≤ 63 := by omega
            rw [← hs] at HNX
            have hA0 : Hid (Rg w wo r a c g (up x 64) (subK f s 0)) := by show Rg w wo _ _ _ _ _ _; rw [subK_zero]; exact hA.out
            clear hf hnx hb hs hA
            go_wp2_with fail
            go_loopw [8] (fun j wr => ∃ m : Nat, m ≤ 64 ∧ j = .int .i64 m ∧ Hid (Rg w wr r a c g (up x 64) (subK f s m))) (fun j _ => 64 - (intOf j).toNat)
            case atStart => exact ⟨0, by omega, rfl, hA0⟩
            case round =>
              clear hA0
              obtain ⟨m, hm, rfl, hI⟩ := hrel
              obtain ⟨wo, rfl⟩ : ∃ wo : World, wo = wr := ⟨_, rfl⟩
              by_cases hml : m < 64
              · have hg1 := hI.out.row.at_ m (by rw [casts_length]; exact hml)
                rw [casts_get, gb_bi m hml] at hg1
                have hc1 := hI.out.rc.rest.cell (s + m) (by omega)
                rw [subK_at] at hc1
                have hf1 := hI.out.rc.rest.free (s + m)
                obtain ⟨E, hE⟩ : ∃ E, E = (GB.getD m 0 == 1) := ⟨_, rfl⟩
                obtain ⟨V, hV⟩ : ∃ V, V = f (s + m) := ⟨_, rfl⟩
                have hst := subK_step f s m
                rw [← hE, ← hV] at hst
                rw [← hE] at hg1
                rw [← hV] at hc1
                have hxo := xor_bi V E
                have hN : Hid (∀ nq, Rg w ((wo.drewN nq).setCell ⟨c, s + m, none⟩ (.int .i64 (bi (V != E)))) r a c g (up x 64) (subK f s (m + 1))) := fun nq => by
                  rw [hst]; exact (hI.out.drewN nq).setC (s + m) (V != E)
                generalize bi (V != E) = b3 at *
                generalize bi V = b1 at *
                generalize bi E = b2 at *
                clear hE hV hst hI
                go_wp2_with fail
                refine wp_region_quiet_tail 16 (by kernel_rfl) (by kernel_rfl) ?_
                simp only [List.take_succ_cons, List.take_zero, List.drop_succ_cons, List.drop_zero]
                repeat (go_big_quiet_step (fail))
                refine wpQuiet_nil ?_
                intro _ hw'
                obtain ⟨nq, hw''⟩ := hw'
                subst hw''
                go_wp2
                go_roundw
                case rel => exact ⟨m + 1, by omega, by go_num, Lib.hid (hN.out nq)⟩
                case measure => simp [intOf]; omega
              · obtain rfl : m = 64 := by omega
                have hA1 : Hid (Rg w wo r a c g (up x 64) (rd (126 - (I - 1)) (up x 64))) := by show Rg w wo _ _ _ _ _ _; rw [HNX.out]; exact hI.out
                clear hI
                go_wp2_with fail
                go_roundw
                case rel => exact ⟨I - 1, by omega, by omega, by rw [HDN.out], hA1⟩
                case measure => simp [intOf]; omega
          | false =>
            rw [hb] at hc hnx
            change _ = some (Value.int .i64 0) at hc
            have hA1 : Hid (Rg w wo r a c g (up x 64) (rd (126 - (I - 1)) (up x 64))) := by show Rg w wo _ _ _ _ _ _; rw [hnx]; exact hA.out
            clear hf hnx hb hA
            go_wp2_with fail
            go_roundw
            case rel => exact ⟨I - 1, by omega, by omega, by rw [HDN.out], hA1⟩
            case measure => simp [intOf]; omega
        · obtain rfl : I = 62 := by omega
          obtain ⟨ff, hff⟩ : ∃ ff, ff = rd 64 (up x 64) := ⟨_, rfl⟩
          rw [show 126 - 62 = 64 from rfl, ← hff] at hA
          have hen : ov ff (up x 64) 63 = enc x := by funext m; unfold enc ov; rw [hff]
          have hA0 : Hid (Rc w wo r a c (ov ff (up x 64) 0) ff) := by show Rc w wo _ _ _ _ _; rw [ov_zero]; exact hA.out.rc
          have HEN := Lib.hid hen
          clear hA hff hen
          go_wp2
          go_loopw [9] (fun i wr => ∃ k : Nat, k ≤ 63 ∧ i = .int .i64 k ∧ Hid (Rc w wr r a c (ov ff (up x 64) k) ff)) (fun i _ => 63 - (intOf i).toNat)
          case atStart => exact ⟨0, by omega, rfl, hA0⟩
          case round =>
            clear hA0
            obtain ⟨k, hk, rfl, hA⟩ := hrel
            obtain ⟨wo, rfl⟩ : ∃ wo : World, wo = wr := ⟨_, rfl⟩
            by_cases hlt : k < 63
            · have hc1 := hA.out.rest.cell k (by omega)
              have hc2 := hA.out.word.cell k (by omega)
              have hf2 := hA.out.word.free k
              have hN : Hid (Rc w (wo.setCell ⟨a, k, none⟩ (.bool (ff k))) r a c (ov ff (up x 64) (k + 1)) ff) := by
                show Rc w _ r a c _ _
                rw [ov_step]; exact hA.out.setA k _
              clear hA
              cases hb : ff k
              all_goals
                rw [hb] at hc1 hN
                first | change _ = some (Value.int .i64 1) at hc1 | change _ = some (Value.int .i64 0) at hc1
                clear hb
                go_wp2
                go_roundw
                case rel => exact ⟨k + 1, by omega, by go_num, hN⟩
                case measure => simp [intOf]; omega
            · obtain rfl : k = 63 := by omega
              rw [HEN.out] at hA
              have hw4 := hA.out.word
              have hres := hA.out.res
              obtain ⟨h1, h2⟩ := hA.out.done (enc x)
              have HD := Lib.hid (And.intro h1 h2)
              have hsz := Lib.hid (size39 (enc x))
              have hold : Hid ((wordV fun _ => false).size = (wordV (enc x)).size) := by show (wordV _).size = (wordV _).size; rw [wordV_size, wordV_size]
              clear hA h1 h2 HEN
              go_wp2_with (first | (refine wpList_load_row rfl 39 _ rfl a rfl 39 (wordV (enc x)) (0, 0) _ hw4 Try.underlying39 rfl hsz.out ?_) | (refine wpList_store_row rfl 39 _ _ rfl r (wordV (enc x)) rfl rfl 39 _ hres hsz.out hold.out (wordV_one (enc x)) ?_))
              exact bodyPost_ret (v := .agg (wordV (enc x))) (results_cell_row Try.results31 _ _ r 39 _ (0, 0) _ rfl HD.out.1 Try.underlying39 rfl hsz.out) rfl ⟨rfl, HD.out.2⟩
end Go.Proofs.Ythponlnklmhbeaa
