/- The law BchTurns: its walk. -/
import Derived.Test.YthponlnklmhbeaaBchQuiet
set_option linter.unusedVariables false
set_option linter.unusedSimpArgs false
namespace Go.Proofs.Ythponlnklmhbeaa
open Go.RowKit Go.Sort F7
theorem wf_u8b {x : Int} (h : (Lit.int .u8 x).wf = true) : 0 ≤ x ∧ x < 256 := by
  have h1 : IntKind.u8.min ≤ x ∧ x ≤ IntKind.u8.max := by simpa [Lit.wf] using h
  have h2 : IntKind.u8.min = 0 := rfl
  have h3 : IntKind.u8.max = 255 := rfl
  omega
theorem tw_start (w : World) (f : Nat → Bool) :
    Tw w (((w.alloc (.cells (wordV fun _ => false) 41)).setRow w.heap.size (wordV f)).alloc (.cells (wordV fun _ => false) 41)) w.heap.size (w.heap.size + 1) f (fun _ => false) := by
  obtain ⟨W, hW⟩ : ∃ W, W = (w.alloc (.cells (wordV fun _ => false) 41)).setRow w.heap.size (wordV f) := ⟨_, rfl⟩
  have hb : Below w.heap.size w W := by rw [hW]; exact below_setRow ((Below.refl _ _).alloc (Nat.le_refl _) _) (Nat.le_refl _) _
  have h1 : Wd 41 W w.heap.size f := by rw [hW]; exact setRow_heap _ _ _ _ 41 _ (heap_alloc_new w _)
  have hs : W.heap.size = w.heap.size + 1 := by rw [hW]; simp
  rw [← hW, ← hs]
  have h2 := Below.alloc (Below.refl W.heap.size W) (Nat.le_refl _) (.cells (wordV fun _ => false) 41)
  exact ⟨h1.below h2, Wd.boxed W 41 _, hb.trans (h2.mono hb.size), by omega, by omega⟩
set_option maxRecDepth 100000 in
set_option maxHeartbeats 1600000 in
theorem bchTurns_walk (x y : Int) (w : World) (hx : (Lit.int .u64 x).wf = true) (hy : (Lit.int .u8 y).wf = true) :
    Calls Try.prog 14 #[.int .u64 x, .int .u8 y] w fun e w' => e = .returned (.bool true) ∧ Below w.heap.size w w' := by
  have hx0 := wf_u64 hx
  have hy0 := wf_u8b hy
  obtain ⟨X, rfl⟩ : ∃ X : Nat, x = X := ⟨x.toNat, by omega⟩
  obtain ⟨s, rfl⟩ : ∃ X : Nat, y = X := ⟨y.toNat, by omega⟩
  have hX : X < 2 ^ 64 := by have := hx0.2; omega
  have hs : s < 256 := by omega
  have ha := bchAwake_is w
  have c1 := fun w => encode_is X hX w
  obtain ⟨f, hf⟩ : ∃ f, f = enc X := ⟨_, rfl⟩
  have hcw : Cw f := by rw [hf]; exact enc_cw X
  rw [← hf] at c1
  obtain ⟨V, hV⟩ : ∃ V, V = tn f s 127 := ⟨_, rfl⟩
  have hVc : Cw V := by rw [hV]; exact tn_cw f s hcw
  have d1 : ∀ w, Calls Try.prog 34 #[.agg (wordV V)] w fun e w' => e = .returned (.bool true) ∧ Below w.heap.size w w' := fun w => by
    have := is_is V w
    rw [(isB_cw V).2 hVc] at this
    exact this
  obtain ⟨Y, hY⟩ : ∃ Y, Y = info V 64 := ⟨_, rfl⟩
  have d2 : ∀ w, Calls Try.prog 35 #[.agg (wordV V)] w fun e w' => e = .returned (.int .u64 (Y : Nat)) ∧ Below w.heap.size w w' := fun w => by rw [hY]; exact info_is V w
  have d3 : ∀ w, Calls Try.prog 32 #[.int .u64 (Y : Nat)] w fun e w' => e = .returned (.agg (wordV (enc Y))) ∧ Below w.heap.size w w' := fun w => encode_is Y (by rw [hY]; exact info_lt V 64) w
  have d4 : ∀ w, (Op.equalIn 10000 41 (.agg (wordV V)) (.agg (wordV (enc Y)))).run Try.prog w = .ok true w := fun w => by
    have := eq_word V (enc Y) w
    rw [hY, decide_eq_true (cw_self V hVc), ← hY] at this
    exact this
  obtain ⟨G, hG⟩ : ∃ G, G = enc Y := ⟨_, rfl⟩
  rw [← hG] at d3 d4
  have D := Lib.hid (And.intro d1 (And.intro d2 (And.intro d3 d4)))
  have HV := Lib.hid hV
  have hz := zero41
  have hszf := Lib.hid (size41 f)
  have hszV := Lib.hid (size41 V)
  have hold : ∀ f, Hid ((wordV fun _ => false).size = (wordV f).size) := fun f => by show (wordV _).size = (wordV _).size; rw [wordV_size, wordV_size]
  clear hx hy hx0 hy0 hX hf hV hcw hVc hY hG d1 d2 d3 d4
  go_enter Try.func14, Try.ntmps14
  go_upto_region 4 with (first | (go_at_call 28; (with_reducible refine ha.mono ?_); rintro e w1 ⟨rfl, hb1⟩; have HB1 := Lib.hid hb1; clear hb1 ha) | (go_at_call 32; (with_reducible refine (c1 _).mono ?_); rintro e w2 ⟨rfl, hb2⟩; have HB2 := Lib.hid hb2; clear hb2 c1) | (refine wpList_store_row rfl 41 (.tmp 5) _ rfl w2.heap.size (wordV f) rfl rfl 41 _ (heap_alloc_new w2 _) hszf.out (hold f).out (wordV_one f) ?_))
  go_upto_region 5 with (fail)
  have hT := tw_start w2 f
  have HT := Lib.hid hT
  clear hT
  generalize ((w2.alloc (.cells (wordV fun _ => false) 41)).setRow w2.heap.size (wordV f)).alloc (.cells (wordV fun _ => false) 41) = W at *
  generalize w2.heap.size + 1 = q at *
  have HB : Hid (Below w.heap.size w w2) := HB1.out.trans (HB2.out.mono HB1.out.size)
  clear HB1 HB2 hold hz
  go_wp2
  go_loopw [7] (fun i wr => ∃ k : Nat, k ≤ 127 ∧ i = .int .i64 k ∧ Hid (Tw w2 wr w2.heap.size q f (tn f s k))) (fun i _ => 127 - (intOf i).toNat)
  case atStart => exact ⟨0, by omega, rfl, HT⟩
  case round =>
    clear HT
    obtain ⟨k, hk, rfl, hA⟩ := hrel
    by_cases hlt : k < 127
    · have c1 := hA.out.one.cell k hlt
      have hN : Hid (Tw w2 (wr.setCell ⟨q, (k + s) % 127, none⟩ (.bool (f k))) w2.heap.size q f (tn f s (k + 1))) := hA.out.set ((k + s) % 127) (f k)
      have c2 := hA.out.two.cell ((k + s) % 127) (Nat.mod_lt _ (by decide))
      have c3 := hA.out.two.free ((k + s) % 127)
      obtain ⟨M, hM⟩ : ∃ M, M = (k + s) % 127 := ⟨_, rfl⟩
      have hMl : M < 127 := by omega
      have hMM : ((k : Int) + (s : Int)) % 127 = (M : Int) := by omega
      rw [← hM] at c2 c3 hN
      have HM := Lib.hid hM
      clear hM
      obtain ⟨wo, rfl⟩ : ∃ wo : World, wo = wr := ⟨_, rfl⟩
      go_wp2
      go_roundw
      case rel => exact ⟨k + 1, by omega, by go_num, hN⟩
      case measure => simp [intOf]; omega
    · obtain rfl : k = 127 := by omega
      have hwd : Hid (Wd 41 wr q V) := by show Wd 41 wr q V; rw [HV.out]; exact hA.out.two
      have hbw : Hid (Below w.heap.size w wr) := HB.out.trans (hA.out.below.mono HB.out.size)
      have e1 : ∀ d os, Calls Try.prog 34 #[.agg (wordV V)] (grow (redrawn wr d) os) fun e w' => e = .returned (.bool true) ∧ ∃ p : Regrown, w' = grow (redrawn wr p.d) p.os := fun d os => (D.out.1 _).regrown_of
      have e2 : ∀ d os, Calls Try.prog 35 #[.agg (wordV V)] (grow (redrawn wr d) os) fun e w' => e = .returned (.int .u64 (Y : Nat)) ∧ ∃ p : Regrown, w' = grow (redrawn wr p.d) p.os := fun d os => (D.out.2.1 _).regrown_of
      have e3 : ∀ d os, Calls Try.prog 32 #[.int .u64 (Y : Nat)] (grow (redrawn wr d) os) fun e w' => e = .returned (.agg (wordV G)) ∧ ∃ p : Regrown, w' = grow (redrawn wr p.d) p.os := fun d os => (D.out.2.2.1 _).regrown_of
      have e4 := D.out.2.2.2
      have HE1 := Lib.hid e1
      have HE2 := Lib.hid e2
      have HE3 := Lib.hid e3
      clear hA HV HB D e1 e2 e3
      go_wp2_with fail
      refine wp_region_quiet_below (by kernel_rfl) (by kernel_rfl) ?_
      repeat (first | go_big_quiet_skip | (go_big_quiet_want; refine quiet_load_row 41 (.tmp 6) rfl q rfl 41 (wordV V) (0, 0) _ hwd.out Try.underlying41 rfl hszV.out ?_; simp only [Act.put, List.setIfInBounds_toArray, List.set_cons_succ, List.set_cons_zero]; go_big_quiet_on) | go_big_quiet_step (first | (with_reducible exact HE1.out _ _) | (with_reducible exact HE2.out _ _) | (with_reducible exact HE3.out _ _)))
      refine wpQuiet_nil ?_
      intro _ hw'
      obtain ⟨⟨dq, osq⟩, hw''⟩ := hw'
      subst hw''
      have hbq : Below w.heap.size w (grow (redrawn wr dq) osq) := hbw.out.trans ((below_regrown wr dq osq).mono hbw.out.size)
      go_wp2
      go_ret
      exact ⟨rfl, hbq⟩
end Go.Proofs.Ythponlnklmhbeaa
