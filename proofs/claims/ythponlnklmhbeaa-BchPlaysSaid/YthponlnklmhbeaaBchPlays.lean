/- The law BchPlays: its walk. -/
import Derived.Test.YthponlnklmhbeaaBchRefWord
import Derived.Test.YthponlnklmhbeaaBchQuiet
set_option linter.unusedVariables false
set_option linter.unusedSimpArgs false
namespace Go.Proofs.Ythponlnklmhbeaa
open Go.RowKit Go.Sort F7
/-- Two rows of the generator's numbers. -/
structure Gg (w0 w : World) (g h : Nat) : Prop where
  one : Row w g .i64 (casts GB)
  two : Row w h .i64 (casts GB)
  below : Below w0.heap.size w0 w
theorem Gg.drewN {w0 w : World} {g h : Nat} (H : Gg w0 w g h) (k : Nat) : Gg w0 (w.drewN k) g h :=
  ⟨H.one.below (below_drewN w k), H.two.below (below_drewN w k), H.below.trans ((below_drewN w k).mono H.below.size)⟩
theorem word39 (W : World) (f : Nat → Bool) : Wd 39 ((W.alloc (.cells (wordV fun _ => false) 39)).setRow W.heap.size (wordV f)) W.heap.size f := setRow_heap _ _ _ _ 39 _ (heap_alloc_new W _)
theorem below39 {w W : World} (hb : Below w.heap.size w W) (f : Nat → Bool) : Below w.heap.size w ((W.alloc (.cells (wordV fun _ => false) 39)).setRow W.heap.size (wordV f)) :=
  below_setRow (hb.alloc hb.size _) hb.size _
set_option maxRecDepth 100000 in
set_option maxHeartbeats 3200000 in
theorem bchPlays_walk (x : Int) (w : World) (hx : (Lit.int .u64 x).wf = true) :
    Calls Try.prog 9 #[.int .u64 x] w fun e w' => e = .returned (.bool true) ∧ Below w.heap.size w w' := by
  have hx0 := wf_u64 hx
  obtain ⟨X, rfl⟩ : ∃ X : Nat, x = X := ⟨x.toNat, by omega⟩
  have hX : X < 2 ^ 64 := by have := hx0.2; omega
  have ha := bchAwake_is w
  have hgen := fun w => generator_is w
  have hgen' := fun w => refGenerator_is w
  have c1 := fun w => encode_is X hX w
  have c2 := fun w => refEncode_is X hX w
  obtain ⟨f, hf⟩ : ∃ f, f = enc X := ⟨_, rfl⟩
  rw [← hf] at c1 c2
  have d1 : ∀ w, (Op.equalIn 10000 41 (.agg (wordV f)) (.agg (wordV f))).run Try.prog w = .ok true w := fun w => by
    have := eq_word f f w
    rw [decide_eq_true rfl] at this
    exact this
  have hz := zero39
  have hszf := Lib.hid (size39 f)
  have hold : ∀ f, Hid ((wordV fun _ => false).size = (wordV f).size) := fun f => by show (wordV _).size = (wordV _).size; rw [wordV_size, wordV_size]
  have C1 := Lib.hid c1
  have D1 := Lib.hid d1
  clear hx hx0 hX hf c1 d1
  go_enter Try.func9, Try.ntmps9
  go_upto_region 4 with (first | (go_at_call 28; (with_reducible refine ha.mono ?_); rintro e w1 ⟨rfl, hb1⟩; have HB1 := Lib.hid hb1; clear hb1 ha) | (go_at_call 29; (with_reducible refine (hgen _).mono ?_); rintro e w2 ⟨g, cap, rfl, hr2, hb2, hg2⟩; have HG := Lib.hid (And.intro hr2 (And.intro hb2 hg2)); clear hr2 hb2 hg2 hgen) | (go_at_call 30; (with_reducible refine (hgen' _).mono ?_); rintro e w3 ⟨h, cap', rfl, hr3, hb3, hg3⟩; have HH := Lib.hid (And.intro hr3 (And.intro hb3 hg3)); clear hr3 hb3 hg3 hgen'))
  have hS : Hid (Gg w w3 g h) := by
    have b2 := HB1.out.trans (HG.out.2.1.mono HB1.out.size)
    exact ⟨HG.out.1.below HH.out.2.1, HH.out.1, b2.trans (HH.out.2.1.mono b2.size)⟩
  clear HB1 HG HH
  go_wp2
  go_loopw [5] (fun i wr => ∃ k : Nat, k ≤ 64 ∧ i = .int .i64 k ∧ Hid (Gg w wr g h)) (fun i _ => 64 - (intOf i).toNat)
  case atStart => exact ⟨0, by omega, rfl, hS⟩
  case round =>
    clear hS
    obtain ⟨k, hk, rfl, hA⟩ := hrel
    obtain ⟨wo, rfl⟩ : ∃ wo : World, wo = wr := ⟨_, rfl⟩
    by_cases hlt : k < 64
    · have l1 := hA.out.one.at_ k (by rw [casts_length]; exact hlt)
      have l2 := hA.out.two.at_ k (by rw [casts_length]; exact hlt)
      rw [casts_get, gb_bi k hlt] at l1 l2
      generalize (GB.getD k 0 == 1) = E at *
      cases E
      all_goals
        first | change _ = some (Value.int .i64 1) at l1 | change _ = some (Value.int .i64 0) at l1
        first | change _ = some (Value.int .i64 1) at l2 | change _ = some (Value.int .i64 0) at l2
        go_wp2
        go_quiet (fail)
        have hN := Lib.hid (hA.out.drewN nq)
        clear hA
        go_wp2
        go_roundw
        case rel => exact ⟨k + 1, by omega, by go_num, hN⟩
        case measure => simp [intOf]; omega
    · obtain rfl : k = 64 := by omega
      have HB : Hid (Below w.heap.size w wo) := hA.out.below
      clear hA
      go_upto_region 10 with (first | (go_at_call 31; (with_reducible refine (c2 _).mono ?_); rintro e w4 ⟨rfl, hb4⟩; have HB4 := Lib.hid (HB.out.trans (hb4.mono HB.out.size)); clear hb4 c2) | (refine wpList_store_row rfl 39 (.tmp 6) _ rfl w4.heap.size (wordV f) rfl rfl 39 _ (heap_alloc_new w4 _) hszf.out (hold f).out (wordV_one f) ?_))
      have hw6 := Lib.hid (word39 w4 f)
      have hbw : Hid (Below w.heap.size w ((w4.alloc (.cells (wordV fun _ => false) 39)).setRow w4.heap.size (wordV f))) := below39 HB4.out f
      clear HB HB4 hz hold
      generalize (w4.alloc (.cells (wordV fun _ => false) 39)).setRow w4.heap.size (wordV f) = W at *
      generalize w4.heap.size = q at *
      have e1 := fun d os => (C1.out (grow (redrawn W d) os)).regrown_of
      have e2 := D1.out
      have HE1 := Lib.hid e1
      clear C1 D1 e1
      go_wp2_with fail
      refine wp_region_quiet_below (by kernel_rfl) (by kernel_rfl) ?_
      simp only [Act.put]
      repeat (first | go_big_quiet_skip | (go_big_quiet_want; refine quiet_load_row 39 (.tmp 6) rfl q rfl 39 (wordV f) (0, 0) _ hw6.out Try.underlying39 rfl hszf.out ?_; simp only [Act.put, List.setIfInBounds_toArray, List.set_cons_succ, List.set_cons_zero]; go_big_quiet_on) | go_big_quiet_step (with_reducible exact HE1.out _ _))
      refine wpQuiet_nil ?_
      intro _ hw'
      obtain ⟨⟨dq, osq⟩, hw''⟩ := hw'
      subst hw''
      have hbq : Below w.heap.size w (grow (redrawn W dq) osq) := hbw.out.trans ((below_regrown W dq osq).mono hbw.out.size)
      go_wp2
      go_ret
      exact ⟨rfl, hbq⟩
end Go.Proofs.Ythponlnklmhbeaa
