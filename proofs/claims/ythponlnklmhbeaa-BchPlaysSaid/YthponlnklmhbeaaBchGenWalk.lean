/- The walk of bch.Generator. -/
import Derived.Test.YthponlnklmhbeaaBchGen
set_option linter.unusedVariables false
set_option linter.unusedSimpArgs false
namespace Go.Proofs.Ythponlnklmhbeaa
open Go.RowKit Go.Sort F7
theorem root_run (w : World) (f : Nat → Bool) (k : Nat) (hk : k < 127) : (Instr.index 39 (.agg (wordV f)) (.int .i64 k)).run Try.prog w = .ok (.bool (f k)) w :=
  run_index_row Try.underlying39 w (by kernel_rfl) (by kernel_rfl) _ _ k hk _ (wordV_get f k hk)
theorem info3' : (Try.prog.info? 3).map (fun i => (i.zero, i.size, i.bytes)) = some (some (.int .i64 0), 1, 8) := by kernel_rfl
theorem make_run (n : Nat) (hn : n ≤ 1000) (w : World) : (Instr.makeSlice 29 (.int .i64 ((n : Int) + 1)) (.int .i64 ((n : Int) + 1))).run Try.prog w = .ok (.slice (some ⟨w.heap.size, 0, none⟩) (n + 1) (n + 1)) (w.alloc (.cells (madeCells #[.int .i64 0] (n + 1)) 3)) := by
  have := run_make_row' (P := Try.prog) 29 3 (.int .i64 0) 8 Try.underlying29 info3' rfl .i64 .i64 (n + 1) (by omega) (by omega) w
  rw [show (((n + 1 : Nat)) : Int) = (n : Int) + 1 by omega] at this
  exact this
theorem row_made (w : World) (n : Nat) : Row (w.alloc (.cells (madeCells #[.int .i64 0] n) 3)) w.heap.size .i64 (casts (List.replicate n 0)) := by
  have hrow : (w.alloc (.cells (madeCells #[.int .i64 0] n) 3)).heap[w.heap.size]? = some (.cells (madeCells #[.int .i64 0] n) 3 (0, 0)) := heap_alloc_new w _
  refine ⟨by simp, fun j hj => ⟨?_, frozen_of_row _ _ j _ 3 hrow⟩⟩
  rw [casts_length, List.length_replicate] at hj
  rw [cell_of_row _ _ j _ 3 (0, 0) hrow, casts_get]
  simp [madeCells, hj, Nat.mod_one, List.getD_eq_getElem?_getD, List.getElem?_replicate]
theorem row_one (w : World) : Row (w.alloc (.cells #[.int .i64 1] 3)) w.heap.size .i64 (casts [1]) := by
  have hrow : (w.alloc (.cells #[.int .i64 1] 3)).heap[w.heap.size]? = some (.cells #[.int .i64 1] 3 (0, 0)) := heap_alloc_new w _
  refine ⟨by simp, fun j hj => ⟨?_, frozen_of_row _ _ j _ 3 hrow⟩⟩
  have : j = 0 := by rw [casts_length] at hj; simp at hj; omega
  subst this
  exact cell_of_row _ _ 0 _ 3 (0, 0) hrow
/-- m rounds of a product. -/
structure In (w0 w : World) (b g g' : Nat) (p l : List Nat) : Prop where
  sy : Sy w0 w b g' l
  old : Row w g .i64 (casts p)
  ne : g ≠ g'
theorem In.set {w0 w : World} {b g g' : Nat} {p l : List Nat} (h : In w0 w b g g' p l) (i x : Nat) (hi : i < l.length) : In w0 (w.setCell ⟨g', i, none⟩ (.int .i64 x)) b g g' p (l.set i x) :=
  ⟨h.sy.set i x hi, h.old.other ⟨g', i, none⟩ _ h.ne, h.ne⟩
theorem In.drewN {w0 w : World} {b g g' : Nat} {p l : List Nat} (h : In w0 w b g g' p l) (k : Nat) : In w0 (w.drewN k) b g g' p l :=
  ⟨h.sy.drewN k, h.old.below (below_drewN w k), h.ne⟩
theorem r7_cast {x : Nat} (h : x < 128) : r7 (x : Int) = x := by unfold r7; omega
theorem mul_nat (b x y : Nat) (hx : x < 128) (hy : y < 128) (w : World) (h : Fd w b) : Calls Try.prog 17 #[.pointer (some ⟨b, 0, none⟩), .int .i64 x, .int .i64 y] w fun e w' => e = .returned (.int .i64 (mul x y : Nat)) ∧ ∃ k, w' = w.drewN k := by
  have := mul_is b x y w h
  rw [r7_cast hx, r7_cast hy] at this
  exact this
theorem exp_nat (b k : Nat) (w : World) (h : Fd w b) : Calls Try.prog 20 #[.pointer (some ⟨b, 0, none⟩), .int .i64 k] w fun e w' => e = .returned (.int .i64 (ex k : Nat)) ∧ ∃ k, w' = w.drewN k := by
  have := exp_is b k w h
  rw [r127_nat] at this
  exact this
set_option maxRecDepth 100000 in
set_option maxHeartbeats 3200000 in
theorem generator_is (w : World) : Calls Try.prog 29 #[] w fun e w' => ∃ g cap, e = .returned (.slice (some ⟨g, 0, none⟩) 64 cap) ∧ Row w' g .i64 (casts GB) ∧ Below w.heap.size w w' ∧ w.heap.size ≤ g := by
  have hnew := fun w => new_is w
  have hroots := fun w => roots_is w
  have hmf : ∀ (fn : Fn) (first cap : Array Value) (w : World), (Instr.makeFunc fn first cap).run Try.prog w = .ok (.func fn first cap) w := fun _ _ _ _ => rfl
  have HRR : Hid (∀ w (k : Nat), k < 127 → (Instr.index 39 (.agg (wordV RT)) (.int .i64 k)).run Try.prog w = .ok (.bool (RT k)) w) := fun w k hk => root_run w RT k hk
  go_enter Try.func29, Try.ntmps29
  go_upto_region 4 with (first | (go_at_call 16; (with_reducible refine (hnew _).mono ?_); rintro e w1 ⟨b, rfl, hF, hbn, hb1⟩; have HF := Lib.hid (And.intro hF (And.intro hbn hb1)); clear hF hbn hb1))
  have hS0 : Hid (Sy w (w1.alloc (.cells #[.int .i64 1] 3)) b w1.heap.size (gen 0)) := by
    obtain ⟨h1, h2, h3⟩ := HF.out
    have hb : Below w1.heap.size w1 (w1.alloc (.cells #[.int .i64 1] 3)) := (Below.refl _ _).alloc (Nat.le_refl _) _
    exact ⟨h1.below hb, row_one w1, h3.trans (hb.mono h3.size), h3.size, by have := h1.lt; omega⟩
  generalize w1.alloc (.cells #[.int .i64 1] 3) = W1 at *
  generalize w1.heap.size = g0 at *
  clear HF hmf hnew
  go_wp2_with (first | (go_at_call 39; (with_reducible refine (hroots _).mono ?_); rintro e w2 ⟨rfl, hb2⟩; have HB2 := Lib.hid hb2; clear hb2 hroots))
  have hS2 : Hid (Sy w w2 b g0 (gen 0)) := by
    have h := hS0.out
    exact ⟨h.fd.below HB2.out, h.row.below HB2.out, h.below.trans (HB2.out.mono h.below.size), h.new, h.ne⟩
  clear hS0 HB2
  go_loopw [3, 14] (fun o i wr => ∃ k g cap : Nat, k ≤ 127 ∧ i = .int .i64 k ∧ o = .slice (some ⟨g, 0, none⟩) (gen k).length cap ∧ Hid (Sy w wr b g (gen k))) (fun _ i _ => 127 - (intOf i).toNat)
  case atStart => exact ⟨0, g0, _, by omega, rfl, rfl, hS2⟩
  case round =>
    clear hS2
    obtain ⟨k, g, cap, hk, rfl, rfl, hA⟩ := hrel
    obtain ⟨wo, rfl⟩ : ∃ wo : World, wo = wr := ⟨_, rfl⟩
    by_cases hlt : k < 127
    · have hix : ∀ w, (Instr.index 39 (.agg (wordV RT)) (.int .i64 k)).run Try.prog w = .ok (.bool (RT k)) w := fun w => HRR.out w k hlt
      cases hR : RT k with
      | true =>
        rw [hR] at hix
        have hgen : gen (k + 1) = times (gen k) (ex k) := by rw [gen, if_pos hR]
        have hlow := gen_low k
        have hlen := gen_length k
        obtain ⟨p, hp⟩ : ∃ p, p = gen k := ⟨_, rfl⟩
        rw [← hp] at hgen hlow hlen hA
        rw [← hp]
        obtain ⟨n, hn⟩ : ∃ n, n = p.length := ⟨_, rfl⟩
        rw [← hn] at hlen
        rw [← hn]
        obtain ⟨hl1, hl2⟩ := hlen
        have hmk := make_run n (by omega)
        have HG := Lib.hid hgen
        have HL := Lib.hid hlow
        have HN := Lib.hid hn
        clear hgen hlow hn hp hR
        go_upto_region 9 with (fail)
        have hI0 : Hid (In w (wo.alloc (.cells (madeCells #[.int .i64 0] (n + 1)) 3)) b g wo.heap.size p (nx p (ex k) 0)) := by
          have h := hA.out
          have hb : Below wo.heap.size wo (wo.alloc (.cells (madeCells #[.int .i64 0] (n + 1)) 3)) := (Below.refl _ _).alloc (Nat.le_refl _) _
          refine ⟨⟨h.fd.below hb, ?_, h.below.trans (hb.mono h.below.size), h.below.size, by have := h.fd.lt; omega⟩, h.row.below hb, by have := h.row.lt; omega⟩
          rw [nx_zero, ← HN.out]
          exact row_made wo (n + 1)
        generalize wo.alloc (.cells (madeCells #[.int .i64 0] (n + 1)) 3) = W2 at *
        generalize wo.heap.size = g' at *
        clear hA hmk
        go_wp2
        go_loopw [26] (fun j wr => ∃ m : Nat, m ≤ n ∧ j = .int .i64 m ∧ Hid (In w wr b g g' p (nx p (ex k) m))) (fun j _ => n - (intOf j).toNat)
        case atStart => exact ⟨0, by omega, rfl, hI0⟩
        case round =>
          clear hI0
          obtain ⟨m, hm, rfl, hI⟩ := hrel
          by_cases hml : m < n
          · have hc0 := hI.out.old.at_ m (by rw [casts_length, ← HN.out]; exact hml)
            rw [casts_get] at hc0
            obtain ⟨C, hC⟩ : ∃ C, C = p.getD m 0 := ⟨_, rfl⟩
            have hCl : C < 128 := by rw [hC]; exact getD_low p HL.out m
            rw [← hC] at hc0
            have hc1 := hI.out.sy.row.at_ (m + 1) (by rw [casts_length, nx_length, ← HN.out]; omega)
            rw [casts_get, nx_get _ _ _ _ (by rw [← HN.out]; omega), if_neg (by omega), if_neg (by omega)] at hc1
            have hf1 := hI.out.sy.row.free (m + 1) (by rw [casts_length, nx_length, ← HN.out]; omega)
            have hxo1 : bits BinOp.xor .i64 0 (C : Int) = (C : Int) := by
              have := xor_i64 0 C (by decide) (by omega)
              rw [Nat.zero_xor] at this
              exact this
            have hI1 : Hid (In w (wr.setCell ⟨g', m + 1, none⟩ (.int .i64 (C : Int))) b g g' p ((nx p (ex k) m).set (m + 1) C)) := hI.out.set (m + 1) C (by rw [nx_length, ← HN.out]; omega)
            have HC := Lib.hid hC
            clear hI hC
            go_upto_region 13 with (fail)
            generalize wr.setCell ⟨g', m + 1, none⟩ (.int .i64 (C : Int)) = W3 at *
            have hc2 := hI1.out.sy.row.at_ m (by rw [casts_length, List.length_set, nx_length, ← HN.out]; omega)
            have hf2 := hI1.out.sy.row.free m (by rw [casts_length, List.length_set, nx_length, ← HN.out]; omega)
            have hval : ((nx p (ex k) m).set (m + 1) C).getD m 0 = prev p m := by
              rw [List.getD_eq_getElem?_getD, List.getElem?_set_ne (by omega), ← List.getD_eq_getElem?_getD, nx_get _ _ _ _ (by rw [← HN.out]; omega), if_neg (by omega), if_pos rfl]
            rw [casts_get, hval] at hc2
            obtain ⟨V, hV⟩ : ∃ V, V = prev p m := ⟨_, rfl⟩
            have hVl : V < 128 := by rw [hV]; exact prev_lt p HL.out m
            rw [← hV] at hc2
            obtain ⟨E, hE⟩ : ∃ E, E = ex k := ⟨_, rfl⟩
            have hEl : E < 128 := by rw [hE]; exact ex_lt k
            obtain ⟨M, hM⟩ : ∃ M, M = mul C E := ⟨_, rfl⟩
            have hMl : M < 128 := by rw [hM]; exact mul_lt _ _
            have q1 : ∀ n, Calls Try.prog 20 #[.pointer (some ⟨b, 0, none⟩), .int .i64 k] (W3.drewN n) fun e w'' => e = .returned (.int .i64 (E : Nat)) ∧ ∃ m, w'' = W3.drewN m := fun n => quietE (by rw [hE]; exact exp_nat b k _ (hI1.out.sy.fd.drewN n))
            have q2 : ∀ n, Calls Try.prog 17 #[.pointer (some ⟨b, 0, none⟩), .int .i64 C, .int .i64 E] (W3.drewN n) fun e w'' => e = .returned (.int .i64 (M : Nat)) ∧ ∃ m, w'' = W3.drewN m := fun n => quietE (by rw [hM]; exact mul_nat b C E (by omega) hEl _ (hI1.out.sy.fd.drewN n))
            have hxo2 := xor_i64 V M (by omega) (by omega)
            have hN : ∀ nq, Hid (In w ((W3.drewN nq).setCell ⟨g', m, none⟩ (.int .i64 ((V ^^^ M : Nat) : Int))) b g g' p (nx p (ex k) (m + 1))) := fun nq => by
              show In w _ b g g' p _
              have h := (hI1.out.drewN nq).set m (V ^^^ M) (by rw [List.length_set, nx_length, ← HN.out]; omega)
              have hst := nx_step p (ex k) m (by rw [← HN.out]; exact hml)
              rw [Nat.zero_xor, ← HC.out, ← hV, ← hE, ← hM, hE] at hst
              rw [hst] at h
              exact h
            clear hval hV hE hM hI1 HC hc0 hc1 hf1 hxo1
            refine wp_region_quiet_tail 12 (by kernel_rfl) (by kernel_rfl) ?_
            simp only [List.take_succ_cons, List.take_zero, List.drop_succ_cons, List.drop_zero]
            repeat (go_big_quiet_step (first | (with_reducible exact q1 _) | (with_reducible exact q2 _)))
            refine wpQuiet_nil ?_
            intro _ hw'
            obtain ⟨nq, hw''⟩ := hw'
            subst hw''
            have hN1 := hN nq
            clear hN q1 q2
            go_wp2
            go_roundw
            case rel => exact ⟨m + 1, by omega, by go_num, hN1⟩
            case measure => simp [intOf]; omega
          · obtain rfl : m = n := by omega
            have hfin : Hid (Sy w wr b g' (gen (k + 1))) := by
              show Sy w wr b g' _
              have := hI.out.sy
              rw [HG.out]
              unfold times
              rw [← HN.out]; exact this
            have hln : Hid (m + 1 = (gen (k + 1)).length) := by show m + 1 = _; rw [HG.out, times_length, HN.out]
            clear hI
            go_wp2
            go_roundw
            case rel => exact ⟨k + 1, g', m + 1, by omega, by go_num, by rw [← hln.out], hfin⟩
            case measure => simp [intOf]; omega
      | false =>
        rw [hR] at hix
        have hgen : gen (k + 1) = gen k := by rw [gen, hR]; rfl
        have hfin : Hid (Sy w wo b g (gen (k + 1))) := by show Sy w wo b g _; rw [hgen]; exact hA.out
        have hln : Hid ((gen k).length = (gen (k + 1)).length) := by show _ = _; rw [hgen]
        clear hA hR hgen
        go_wp2
        go_roundw
        case rel => exact ⟨k + 1, g, cap, by omega, by go_num, by rw [← hln.out], hfin⟩
        case measure => simp [intOf]; omega
    · obtain rfl : k = 127 := by omega
      have hall := hA.out
      have hl : (gen 127).length = 64 := by rw [gen_all]; rfl
      rw [gen_all] at hall
      rw [hl]
      clear hl
      have HA := Lib.hid hall
      clear hall hA
      go_wp2
      go_ret
      exact ⟨g, cap, rfl, HA.out.row, HA.out.below, HA.out.new⟩
end Go.Proofs.Ythponlnklmhbeaa
