/- The law KeyedPeriod: its walk. -/
import Derived.Test.YthmiomncgkmnoaaDoorKeySubsets
import Derived.Test.YthmiomncgkmnoaaDoorTwoRows
import Derived.Deep.DeepCutAuto
import Derived.Lib.QuietBelow
set_option linter.unusedVariables false
set_option linter.unusedSimpArgs false
namespace Go.Proofs.YthmiomncgkmnoaaDoor
open Go.RowKit Go.Sort Sip Kd
theorem fr_period (F M : Int) : fr (F + 1016 * M) = fr F := by unfold fr; omega
theorem sub_period (kl : List Nat) (F M B T : Int) : sub kl (F + 1016 * M) B T = sub kl F B T := by unfold sub; rw [fr_period]
set_option maxRecDepth 100000 in
set_option maxHeartbeats 3200000 in
theorem keyedPeriod_walk (kl : List Nat) (n m B T : Int) (w : World) (hk : kl.length = 16) (hb : Bytes kl) (hn : (Lit.int .i64 n).wf = true) (hm : (Lit.int .i64 m).wf = true) (hBw : (Lit.int .u8 B).wf = true) (hTw : (Lit.int .u8 T).wf = true) (hg : Signs w) :
    Calls Tryd.prog 13 #[.agg (keyV kl), .int .i64 n, .int .i64 m, .int .u8 B, .int .u8 T] w fun e w' => e = .returned (.bool true) ∧ Below w.heap.size w w' := by
  have h0 : Hid ((w.alloc (.cells (keyV kl) 23)).heap[w.heap.size]? = some (.cells (keyV kl) 23 (0, 0))) := heap_alloc_new w _
  have hw0 : Hid (Below w.heap.size w (w.alloc (.cells (keyV kl) 23))) := (Below.refl _ _).alloc (Nat.le_refl _) _
  have hG : Hid (Signs (w.alloc (.cells (keyV kl) 23))) := hg.below hw0.out
  have hsz := Lib.hid (size23 kl hk)
  have ha := keyAwake_is (w.alloc (.cells (keyV kl) 23)) hG.out
  obtain ⟨hB0, hB1⟩ : 0 ≤ B ∧ B < 256 := by
    have h : IntKind.u8.min ≤ B ∧ B ≤ IntKind.u8.max := by simpa [Lit.wf] using hBw
    obtain ⟨h1, h2⟩ := h
    change 0 ≤ B at h1
    change B ≤ 255 at h2
    omega
  obtain ⟨hT0, hT1⟩ : 0 ≤ T ∧ T < 256 := by
    have h : IntKind.u8.min ≤ T ∧ T ≤ IntKind.u8.max := by simpa [Lit.wf] using hTw
    obtain ⟨h1, h2⟩ := h
    change 0 ≤ T at h1
    change T ≤ 255 at h2
    omega
  obtain ⟨F, hF⟩ : ∃ F, F = Int.tmod n 1000000 := ⟨_, rfl⟩
  have hF1 : -1000000 < F ∧ F < 1000000 := by
    rw [hF, Int.tmod_eq_emod]
    split <;> omega
  have hF2 : Int.tmod n 1000000 = F := hF.symm
  obtain ⟨M, hM⟩ : ∃ M, M = Int.tmod m 1000 := ⟨_, rfl⟩
  have hM1 : -1000 < M ∧ M < 1000 := by
    rw [hM, Int.tmod_eq_emod]
    split <;> omega
  have hM2 : Int.tmod m 1000 = M := hM.symm
  obtain ⟨hFa, hFb⟩ := hF1
  obtain ⟨hMa, hMb⟩ := hM1
  obtain ⟨B8, hB8⟩ : ∃ B8, B8 = B % 8 := ⟨_, rfl⟩
  have hB9 : 0 ≤ B8 ∧ B8 < 8 := by omega
  have hB2 : B % 8 = B8 := hB8.symm
  obtain ⟨T8, hT8⟩ : ∃ T8, T8 = T % 8 := ⟨_, rfl⟩
  have hT9 : 0 ≤ T8 ∧ T8 < 8 := by omega
  have hT2 : T % 8 = T8 := hT8.symm
  have HBt : Hid (B.tmod 8 = B8) := by show _ = _; rw [Int.tmod_eq_emod_of_nonneg hB0]; exact hB2
  have HBi : Hid (IntKind.i64.wrap B8 = B8) := wraps_i64 _ (by omega) (by omega)
  have HTt : Hid (T.tmod 8 = T8) := by show _ = _; rw [Int.tmod_eq_emod_of_nonneg hT0]; exact hT2
  have HTi : Hid (IntKind.i64.wrap T8 = T8) := wraps_i64 _ (by omega) (by omega)
  have r1 := Lib.hid fun w hg => chips_is kl hk hb F w hg
  have r2 := Lib.hid fun w hg => chips_is kl hk hb (F + 1016 * M) w hg
  have r3 := Lib.hid fun w hg => subset_is kl hk hb F B8 T8 w hg
  have r4 := Lib.hid fun w hg => subset_is kl hk hb (F + 1016 * M) B8 T8 w hg
  have r5 := Lib.hid fun w hg => band_is kl hk hb F w hg
  have r6 := Lib.hid fun w hg => band_is kl hk hb (F + 1016 * M) w hg
  have r7 := Lib.hid fun w hg => place_is kl hk hb F w hg
  have r8 := Lib.hid fun w hg => place_is kl hk hb (F + 1016 * M) w hg
  have r9 := Lib.hid fun w => frame_is F w
  have r10 := Lib.hid fun w => frame_is (F + 1016 * M) w
  rw [fr_period] at r2 r6 r8 r10
  rw [sub_period] at r4
  have hS : decide ((List.range 4).map (sub kl F B8 T8) = (List.range 4).map fun _ => false) = false := (eq_sub kl F B8 T8).trans (decide_eq_false (by omega))
  generalize chip (num kl 99 (fr F)) = C at *
  generalize sub kl F B8 T8 = S at *
  generalize (ord kl (128 + fr F / 8) 8).getD (fr F % 8) 0 = BD at *
  generalize (ord kl 112 127).getD (fr F % 127) 0 = PL at *
  generalize fr F = FR at *
  have hS := Lib.hid hS
  clear hk hb hn hm hBw hTw hg hF hM hB8 hT8
  go_enter Tryd.func13, Tryd.ntmps13
  go_upto_region 1 with (fail)
  generalize w.alloc (.cells (keyV kl) 23) = W at *
  obtain ⟨b, hb0⟩ : ∃ b, b = w.heap.size := ⟨_, rfl⟩
  rw [← hb0] at h0
  rw [← hb0]
  clear hb0
  go_upto_region 5 with (go_at_call 26; (with_reducible refine ha.mono ?_); rintro e w1 ⟨rfl, hb1⟩; have HB1 := Lib.hid hb1; clear hb1 ha)
  have h1 : Hid (w1.heap[b]? = some (.cells (keyV kl) 23 (0, 0))) := (HB1.out.block b (Array.getElem?_eq_some_iff.1 h0.out).1).trans h0.out
  have HBW : Hid (Below w.heap.size w w1) := hw0.out.trans (HB1.out.mono hw0.out.size)
  have HG1 : Hid (Signs w1) := hG.out.below HB1.out
  have hbl : Hid (b < w1.heap.size) := (Array.getElem?_eq_some_iff.1 h1.out).1
  clear h0 hw0 hG HB1
  go_cut [13, 14] (fun s13 s14 wx => ∃ p q : Nat, s13 = .pointer (some ⟨p, 0, none⟩) ∧ s14 = .pointer (some ⟨q, 0, none⟩) ∧ Hid (Below w1.heap.size w1 wx ∧ wx.heap[p]? = some (.cells (chv C) 50 (0, 0)) ∧ wx.heap[q]? = some (.cells (chv C) 50 (0, 0))))
  case first =>
    have hz := zero50
    obtain ⟨I, hI⟩ : ∃ I : (Nat → Bool) → Act → World → Prop, ∀ dn ac wc, I dn ac wc ↔ ∃ s13 s14 s26 s27 s28 s29 s30 s31, ac = ⟨#[.agg (keyV kl), .int .i64 (n), .int .i64 (m), .int .u8 B, .int .u8 T, .pointer (some ⟨b, 0, none⟩), undef, undef, undef, undef, .bool false, .int .i64 (F), .int .i64 (F + 1016 * M), s13, s14, undef, undef, .bool true, .bool false, .int .i64 (n), .int .i64 (F), .int .i64 (F), .int .i64 (m), .int .i64 (M), .int .i64 (1016 * M), .int .i64 (F + 1016 * M), s26, s27, s28, s29, s30, s31, undef, undef, undef, undef, undef, undef, undef, undef, undef, undef, undef, undef, undef, undef, undef, undef, undef, undef, undef, undef, undef, undef, undef, undef, undef, undef, undef, undef, undef, undef, undef, undef, undef, undef, undef, undef, undef, undef, undef, undef, undef, undef, undef, undef, undef, undef, undef, undef, undef, undef, undef, undef, undef, undef, undef, undef], []⟩ ∧
      Two w1 wc dn [(0, .agg (keyV kl), s26), (1, .int .i64 F, s27), (2, .agg (chv C), s28), (3, .agg (keyV kl), s29), (4, .int .i64 (F + 1016 * M), s30), (5, .agg (chv C), s31)] 50 (chv fun _ => 0) (chv C) (chv C) 6 8 7 9 s13 s14 := ⟨_, fun _ _ _ => Iff.rfl⟩
    have HI := Lib.hid hI
    clear hI
    refine wp_region_inv (by kernel_rfl) (by kernel_rfl) I ?_ ?_ ?_
    · exact (HI.out _ _ _).2 ⟨_, _, _, _, _, _, _, _, rfl, Two.start ..⟩
    · intro i o dn ac wc ho hd hdep hIn
      obtain ⟨s13, s14, s26, s27, s28, s29, s30, s31, rfl, hT⟩ := (HI.out _ _ _).1 hIn
      clear hIn
      rcases i with _ | _ | _ | _ | _ | _ | _ | _ | _ | _ | i
      · obtain rfl := Option.some.inj ho
        refine .inl (wp_load_row 23 (.tmp 5) rfl b rfl 23 _ (0, 0) _ ((hT.below.block b hbl.out).trans h1.out) Tryd.underlying23 rfl hsz.out ?_)
        exact (HI.out _ _ _).2 ⟨_, _, _, _, _, _, _, _, rfl, hT.val 0 (by decide) _ (by
          intro e he hde
          simp only [List.mem_cons, List.not_mem_nil, or_false] at he
          rcases he with rfl | rfl | rfl | rfl | rfl | rfl
          · rfl
          · first | rfl | (rw [also_ne _ (show 1 ≠ 0 by decide)] at hde; exact hT.vals _ (by simp) hde)
          · first | rfl | (rw [also_ne _ (show 2 ≠ 0 by decide)] at hde; exact hT.vals _ (by simp) hde)
          · first | rfl | (rw [also_ne _ (show 3 ≠ 0 by decide)] at hde; exact hT.vals _ (by simp) hde)
          · first | rfl | (rw [also_ne _ (show 4 ≠ 0 by decide)] at hde; exact hT.vals _ (by simp) hde)
          · first | rfl | (rw [also_ne _ (show 5 ≠ 0 by decide)] at hde; exact hT.vals _ (by simp) hde)
          ) (Below.refl _ _)⟩
      · obtain rfl := Option.some.inj ho
        refine .inl ?_
        unfold Oper.wp
        go_simp
        exact (HI.out _ _ _).2 ⟨_, _, _, _, _, _, _, _, rfl, hT.val 1 (by decide) _ (by
          intro e he hde
          simp only [List.mem_cons, List.not_mem_nil, or_false] at he
          rcases he with rfl | rfl | rfl | rfl | rfl | rfl
          · first | rfl | (rw [also_ne _ (show 0 ≠ 1 by decide)] at hde; exact hT.vals _ (by simp) hde)
          · rfl
          · first | rfl | (rw [also_ne _ (show 2 ≠ 1 by decide)] at hde; exact hT.vals _ (by simp) hde)
          · first | rfl | (rw [also_ne _ (show 3 ≠ 1 by decide)] at hde; exact hT.vals _ (by simp) hde)
          · first | rfl | (rw [also_ne _ (show 4 ≠ 1 by decide)] at hde; exact hT.vals _ (by simp) hde)
          · first | rfl | (rw [also_ne _ (show 5 ≠ 1 by decide)] at hde; exact hT.vals _ (by simp) hde)
          ) (Below.refl _ _)⟩
      · obtain rfl := Option.some.inj ho
        have e0 := hT.vals _ (List.Mem.head _) (hdep ⟨0, .data⟩ (by simp) rfl)
        dsimp only at e0
        subst e0
        have e1 := hT.vals _ (List.Mem.tail _ (List.Mem.head _)) (hdep ⟨1, .data⟩ (by simp) rfl)
        dsimp only at e1
        subst e1
        have HT := Lib.hid hT
        have HB := Lib.hid hT.below
        have hgx := HG1.out.below HB.out
        clear hT hdep
        refine .inl ?_
        unfold Oper.wp
        go_simp
        (with_reducible refine (r1.out _ hgx).mono ?_); rintro e w1 ⟨rfl, hb1⟩
        have hT := HT.out
        exact (HI.out _ _ _).2 ⟨_, _, _, _, _, _, _, _, rfl, hT.val 2 (by decide) _ (by
          intro e he hde
          simp only [List.mem_cons, List.not_mem_nil, or_false] at he
          rcases he with rfl | rfl | rfl | rfl | rfl | rfl
          · first | rfl | (rw [also_ne _ (show 0 ≠ 2 by decide)] at hde; exact hT.vals _ (by simp) hde)
          · first | rfl | (rw [also_ne _ (show 1 ≠ 2 by decide)] at hde; exact hT.vals _ (by simp) hde)
          · rfl
          · first | rfl | (rw [also_ne _ (show 3 ≠ 2 by decide)] at hde; exact hT.vals _ (by simp) hde)
          · first | rfl | (rw [also_ne _ (show 4 ≠ 2 by decide)] at hde; exact hT.vals _ (by simp) hde)
          · first | rfl | (rw [also_ne _ (show 5 ≠ 2 by decide)] at hde; exact hT.vals _ (by simp) hde)
          ) hb1⟩
      · obtain rfl := Option.some.inj ho
        refine .inl (wp_load_row 23 (.tmp 5) rfl b rfl 23 _ (0, 0) _ ((hT.below.block b hbl.out).trans h1.out) Tryd.underlying23 rfl hsz.out ?_)
        exact (HI.out _ _ _).2 ⟨_, _, _, _, _, _, _, _, rfl, hT.val 3 (by decide) _ (by
          intro e he hde
          simp only [List.mem_cons, List.not_mem_nil, or_false] at he
          rcases he with rfl | rfl | rfl | rfl | rfl | rfl
          · first | rfl | (rw [also_ne _ (show 0 ≠ 3 by decide)] at hde; exact hT.vals _ (by simp) hde)
          · first | rfl | (rw [also_ne _ (show 1 ≠ 3 by decide)] at hde; exact hT.vals _ (by simp) hde)
          · first | rfl | (rw [also_ne _ (show 2 ≠ 3 by decide)] at hde; exact hT.vals _ (by simp) hde)
          · rfl
          · first | rfl | (rw [also_ne _ (show 4 ≠ 3 by decide)] at hde; exact hT.vals _ (by simp) hde)
          · first | rfl | (rw [also_ne _ (show 5 ≠ 3 by decide)] at hde; exact hT.vals _ (by simp) hde)
          ) (Below.refl _ _)⟩
      · obtain rfl := Option.some.inj ho
        refine .inl ?_
        unfold Oper.wp
        go_simp
        exact (HI.out _ _ _).2 ⟨_, _, _, _, _, _, _, _, rfl, hT.val 4 (by decide) _ (by
          intro e he hde
          simp only [List.mem_cons, List.not_mem_nil, or_false] at he
          rcases he with rfl | rfl | rfl | rfl | rfl | rfl
          · first | rfl | (rw [also_ne _ (show 0 ≠ 4 by decide)] at hde; exact hT.vals _ (by simp) hde)
          · first | rfl | (rw [also_ne _ (show 1 ≠ 4 by decide)] at hde; exact hT.vals _ (by simp) hde)
          · first | rfl | (rw [also_ne _ (show 2 ≠ 4 by decide)] at hde; exact hT.vals _ (by simp) hde)
          · first | rfl | (rw [also_ne _ (show 3 ≠ 4 by decide)] at hde; exact hT.vals _ (by simp) hde)
          · rfl
          · first | rfl | (rw [also_ne _ (show 5 ≠ 4 by decide)] at hde; exact hT.vals _ (by simp) hde)
          ) (Below.refl _ _)⟩
      · obtain rfl := Option.some.inj ho
        have e3 := hT.vals _ (List.Mem.tail _ (List.Mem.tail _ (List.Mem.tail _ (List.Mem.head _)))) (hdep ⟨3, .data⟩ (by simp) rfl)
        dsimp only at e3
        subst e3
        have e4 := hT.vals _ (List.Mem.tail _ (List.Mem.tail _ (List.Mem.tail _ (List.Mem.tail _ (List.Mem.head _))))) (hdep ⟨4, .data⟩ (by simp) rfl)
        dsimp only at e4
        subst e4
        have HT := Lib.hid hT
        have HB := Lib.hid hT.below
        have hgx := HG1.out.below HB.out
        clear hT hdep
        refine .inl ?_
        unfold Oper.wp
        go_simp
        (with_reducible refine (r2.out _ hgx).mono ?_); rintro e w1 ⟨rfl, hb1⟩
        have hT := HT.out
        exact (HI.out _ _ _).2 ⟨_, _, _, _, _, _, _, _, rfl, hT.val 5 (by decide) _ (by
          intro e he hde
          simp only [List.mem_cons, List.not_mem_nil, or_false] at he
          rcases he with rfl | rfl | rfl | rfl | rfl | rfl
          · first | rfl | (rw [also_ne _ (show 0 ≠ 5 by decide)] at hde; exact hT.vals _ (by simp) hde)
          · first | rfl | (rw [also_ne _ (show 1 ≠ 5 by decide)] at hde; exact hT.vals _ (by simp) hde)
          · first | rfl | (rw [also_ne _ (show 2 ≠ 5 by decide)] at hde; exact hT.vals _ (by simp) hde)
          · first | rfl | (rw [also_ne _ (show 3 ≠ 5 by decide)] at hde; exact hT.vals _ (by simp) hde)
          · first | rfl | (rw [also_ne _ (show 4 ≠ 5 by decide)] at hde; exact hT.vals _ (by simp) hde)
          · rfl
          ) hb1⟩
      · obtain rfl := Option.some.inj ho
        have hT' := (HI.out _ _ _).2 ⟨_, _, _, _, _, _, _, _, rfl, hT.make1 (W := w1) hd (by decide) rfl⟩
        refine .inl ?_
        unfold Oper.wp
        go_simp
        exact hT'
      · obtain rfl := Option.some.inj ho
        have hT' := (HI.out _ _ _).2 ⟨_, _, _, _, _, _, _, _, rfl, hT.make2 (W := w1) hd (by decide) rfl⟩
        refine .inl ?_
        unfold Oper.wp
        go_simp
        exact hT'
      · obtain rfl := Option.some.inj ho
        have e2 := hT.vals _ (List.Mem.tail _ (List.Mem.tail _ (List.Mem.head _))) (hdep ⟨2, .data⟩ (by simp) rfl)
        dsimp only at e2
        subst e2
        obtain ⟨p, rfl, ⟨o, ho, hz⟩, hT'⟩ := hT.fill1 (hdep ⟨6, .data⟩ (by simp) rfl) (by decide) rfl
        obtain rfl := hz hd
        refine .inl (wp_store_row 50 (.tmp 13) (.tmp 28) rfl p (chv C) rfl rfl 50 _ ho (by kernel_rfl) (by rfl) (chv_one C) ?_)
        exact (HI.out _ _ _).2 ⟨_, _, _, _, _, _, _, _, rfl, hT'⟩
      · obtain rfl := Option.some.inj ho
        have e5 := hT.vals _ (List.Mem.tail _ (List.Mem.tail _ (List.Mem.tail _ (List.Mem.tail _ (List.Mem.tail _ (List.Mem.head _)))))) (hdep ⟨5, .data⟩ (by simp) rfl)
        dsimp only at e5
        subst e5
        obtain ⟨p, rfl, ⟨o, ho, hz⟩, hT'⟩ := hT.fill2 (hdep ⟨7, .data⟩ (by simp) rfl) (by decide) rfl
        obtain rfl := hz hd
        refine .inl (wp_store_row 50 (.tmp 14) (.tmp 31) rfl p (chv C) rfl rfl 50 _ ho (by kernel_rfl) (by rfl) (chv_one C) ?_)
        exact (HI.out _ _ _).2 ⟨_, _, _, _, _, _, _, _, rfl, hT'⟩
      · cases ho
    · intro dn ac wc hd hIn
      obtain ⟨s13, s14, s26, s27, s28, s29, s30, s31, rfl, hT⟩ := (HI.out _ _ _).1 hIn
      obtain ⟨p, q, rfl, rfl, h3, h4, h5⟩ := hT.done ⟨hd 6 (by decide), hd 8 (by decide), hd 7 (by decide), hd 9 (by decide)⟩
      clear HI hIn hT hd r1 r2
      go_wp2_with fail
      go_meet
      exact ⟨p, q, rfl, rfl, Lib.hid ⟨h3, h4, h5⟩⟩
  case rest =>
    obtain ⟨p, q, rfl, rfl, hfin⟩ := hcut
    clear r1 r2
    obtain ⟨wc1, hwc⟩ : ∃ wc1, wc1 = wc := ⟨_, rfl⟩
    rw [← hwc]
    rw [← hwc] at hfin
    clear hwc
    have hk1 : Hid (wc1.heap[b]? = some (.cells (keyV kl) 23 (0, 0))) := (hfin.out.1.block b hbl.out).trans h1.out
    have hbl1 : Hid (b < wc1.heap.size) := (Array.getElem?_eq_some_iff.1 hk1.out).1
    have HG2 : Hid (Signs wc1) := HG1.out.below hfin.out.1
    have HBW1 : Hid (Below w.heap.size w wc1) := HBW.out.trans (hfin.out.1.mono HBW.out.size)
    have hp1 : Hid (wc1.heap[p]? = some (.cells (chv C) 50 (0, 0)) ∧ wc1.heap[q]? = some (.cells (chv C) 50 (0, 0))) := hfin.out.2
    clear hfin HBW HG1 hbl h1
    go_upto_region 6 with (fail)
    go_cut [15, 16] (fun s15 s16 wx => ∃ p2 q2 : Nat, s15 = .pointer (some ⟨p2, 0, none⟩) ∧ s16 = .pointer (some ⟨q2, 0, none⟩) ∧ Hid (Below wc1.heap.size wc1 wx ∧ wx.heap[p2]? = some (.cells (bV 4 S) 47 (0, 0)) ∧ wx.heap[q2]? = some (.cells (bV 4 S) 47 (0, 0))))
    case first =>
      have hz := zero47
      obtain ⟨I, hI⟩ : ∃ I : (Nat → Bool) → Act → World → Prop, ∀ dn ac wc, I dn ac wc ↔ ∃ s15 s16 s32 s33 s34 s35 s36 s37 s38 s39 s40 s41 s42 s43 s44 s45 s46 s47 s48 s49, ac = ⟨#[.agg (keyV kl), .int .i64 (n), .int .i64 (m), .int .u8 B, .int .u8 T, .pointer (some ⟨b, 0, none⟩), undef, undef, undef, undef, .bool false, .int .i64 (F), .int .i64 (F + 1016 * M), .pointer (some ⟨p, 0, none⟩), .pointer (some ⟨q, 0, none⟩), s15, s16, u17, u18, u19, u20, u21, u22, u23, u24, u25, u26, u27, u28, u29, u30, u31, s32, s33, s34, s35, s36, s37, s38, s39, s40, s41, s42, s43, s44, s45, s46, s47, s48, s49, u50, u51, u52, u53, u54, u55, u56, u57, u58, u59, u60, u61, u62, u63, u64, u65, u66, u67, u68, u69, u70, u71, u72, u73, u74, u75, u76, u77, u78, u79, u80, u81, u82, u83, u84, u85, u86, u87], []⟩ ∧
        Two wc1 wc dn [(0, .agg (keyV kl), s32), (1, .int .i64 F, s33), (2, .int .u8 (B), s34), (3, .int .u8 (B8), s35), (4, .int .i64 (B8), s36), (5, .int .u8 (T), s37), (6, .int .u8 (T8), s38), (7, .int .i64 (T8), s39), (8, .agg (bV 4 S), s40), (9, .agg (keyV kl), s41), (10, .int .i64 (F + 1016 * M), s42), (11, .int .u8 (B), s43), (12, .int .u8 (B8), s44), (13, .int .i64 (B8), s45), (14, .int .u8 (T), s46), (15, .int .u8 (T8), s47), (16, .int .i64 (T8), s48), (17, .agg (bV 4 S), s49)] 47 (bV 4 fun _ => false) (bV 4 S) (bV 4 S) 18 20 19 21 s15 s16 := ⟨_, fun _ _ _ => Iff.rfl⟩
      have HI := Lib.hid hI
      clear hI
      refine wp_region_inv (by kernel_rfl) (by kernel_rfl) I ?_ ?_ ?_
      · exact (HI.out _ _ _).2 ⟨_, _, _, _, _, _, _, _, _, _, _, _, _, _, _, _, _, _, _, _, rfl, Two.start ..⟩
      · intro i o dn ac wc ho hd hdep hIn
        obtain ⟨s15, s16, s32, s33, s34, s35, s36, s37, s38, s39, s40, s41, s42, s43, s44, s45, s46, s47, s48, s49, rfl, hT⟩ := (HI.out _ _ _).1 hIn
        clear hIn
        rcases i with _ | _ | _ | _ | _ | _ | _ | _ | _ | _ | _ | _ | _ | _ | _ | _ | _ | _ | _ | _ | _ | _ | i
        · obtain rfl := Option.some.inj ho
          refine .inl (wp_load_row 23 (.tmp 5) rfl b rfl 23 _ (0, 0) _ ((hT.below.block b hbl1.out).trans hk1.out) Tryd.underlying23 rfl hsz.out ?_)
          exact (HI.out _ _ _).2 ⟨_, _, _, _, _, _, _, _, _, _, _, _, _, _, _, _, _, _, _, _, rfl, hT.val 0 (by decide) _ (by
            intro e he hde
            simp only [List.mem_cons, List.not_mem_nil, or_false] at he
            rcases he with rfl | rfl | rfl | rfl | rfl | rfl | rfl | rfl | rfl | rfl | rfl | rfl | rfl | rfl | rfl | rfl | rfl | rfl
            · rfl
            · first | rfl | (rw [also_ne _ (show 1 ≠ 0 by decide)] at hde; exact hT.vals _ (by simp) hde)
            · first | rfl | (rw [also_ne _ (show 2 ≠ 0 by decide)] at hde; exact hT.vals _ (by simp) hde)
            · first | rfl | (rw [also_ne _ (show 3 ≠ 0 by decide)] at hde; exact hT.vals _ (by simp) hde)
            · first | rfl | (rw [also_ne _ (show 4 ≠ 0 by decide)] at hde; exact hT.vals _ (by simp) hde)
            · first | rfl | (rw [also_ne _ (show 5 ≠ 0 by decide)] at hde; exact hT.vals _ (by simp) hde)
            · first | rfl | (rw [also_ne _ (show 6 ≠ 0 by decide)] at hde; exact hT.vals _ (by simp) hde)
            · first | rfl | (rw [also_ne _ (show 7 ≠ 0 by decide)] at hde; exact hT.vals _ (by simp) hde)
            · first | rfl | (rw [also_ne _ (show 8 ≠ 0 by decide)] at hde; exact hT.vals _ (by simp) hde)
            · first | rfl | (rw [also_ne _ (show 9 ≠ 0 by decide)] at hde; exact hT.vals _ (by simp) hde)
            · first | rfl | (rw [also_ne _ (show 10 ≠ 0 by decide)] at hde; exact hT.vals _ (by simp) hde)
            · first | rfl | (rw [also_ne _ (show 11 ≠ 0 by decide)] at hde; exact hT.vals _ (by simp) hde)
            · first | rfl | (rw [also_ne _ (show 12 ≠ 0 by decide)] at hde; exact hT.vals _ (by simp) hde)
            · first | rfl | (rw [also_ne _ (show 13 ≠ 0 by decide)] at hde; exact hT.vals _ (by simp) hde)
            · first | rfl | (rw [also_ne _ (show 14 ≠ 0 by decide)] at hde; exact hT.vals _ (by simp) hde)
            · first | rfl | (rw [also_ne _ (show 15 ≠ 0 by decide)] at hde; exact hT.vals _ (by simp) hde)
            · first | rfl | (rw [also_ne _ (show 16 ≠ 0 by decide)] at hde; exact hT.vals _ (by simp) hde)
            · first | rfl | (rw [also_ne _ (show 17 ≠ 0 by decide)] at hde; exact hT.vals _ (by simp) hde)
            ) (Below.refl _ _)⟩
        · obtain rfl := Option.some.inj ho
          refine .inl ?_
          unfold Oper.wp
          go_simp
          exact (HI.out _ _ _).2 ⟨_, _, _, _, _, _, _, _, _, _, _, _, _, _, _, _, _, _, _, _, rfl, hT.val 1 (by decide) _ (by
            intro e he hde
            simp only [List.mem_cons, List.not_mem_nil, or_false] at he
            rcases he with rfl | rfl | rfl | rfl | rfl | rfl | rfl | rfl | rfl | rfl | rfl | rfl | rfl | rfl | rfl | rfl | rfl | rfl
            · first | rfl | (rw [also_ne _ (show 0 ≠ 1 by decide)] at hde; exact hT.vals _ (by simp) hde)
            · rfl
            · first | rfl | (rw [also_ne _ (show 2 ≠ 1 by decide)] at hde; exact hT.vals _ (by simp) hde)
            · first | rfl | (rw [also_ne _ (show 3 ≠ 1 by decide)] at hde; exact hT.vals _ (by simp) hde)
            · first | rfl | (rw [also_ne _ (show 4 ≠ 1 by decide)] at hde; exact hT.vals _ (by simp) hde)
            · first | rfl | (rw [also_ne _ (show 5 ≠ 1 by decide)] at hde; exact hT.vals _ (by simp) hde)
            · first | rfl | (rw [also_ne _ (show 6 ≠ 1 by decide)] at hde; exact hT.vals _ (by simp) hde)
            · first | rfl | (rw [also_ne _ (show 7 ≠ 1 by decide)] at hde; exact hT.vals _ (by simp) hde)
            · first | rfl | (rw [also_ne _ (show 8 ≠ 1 by decide)] at hde; exact hT.vals _ (by simp) hde)
            · first | rfl | (rw [also_ne _ (show 9 ≠ 1 by decide)] at hde; exact hT.vals _ (by simp) hde)
            · first | rfl | (rw [also_ne _ (show 10 ≠ 1 by decide)] at hde; exact hT.vals _ (by simp) hde)
            · first | rfl | (rw [also_ne _ (show 11 ≠ 1 by decide)] at hde; exact hT.vals _ (by simp) hde)
            · first | rfl | (rw [also_ne _ (show 12 ≠ 1 by decide)] at hde; exact hT.vals _ (by simp) hde)
            · first | rfl | (rw [also_ne _ (show 13 ≠ 1 by decide)] at hde; exact hT.vals _ (by simp) hde)
            · first | rfl | (rw [also_ne _ (show 14 ≠ 1 by decide)] at hde; exact hT.vals _ (by simp) hde)
            · first | rfl | (rw [also_ne _ (show 15 ≠ 1 by decide)] at hde; exact hT.vals _ (by simp) hde)
            · first | rfl | (rw [also_ne _ (show 16 ≠ 1 by decide)] at hde; exact hT.vals _ (by simp) hde)
            · first | rfl | (rw [also_ne _ (show 17 ≠ 1 by decide)] at hde; exact hT.vals _ (by simp) hde)
            ) (Below.refl _ _)⟩
        · obtain rfl := Option.some.inj ho
          refine .inl ?_
          unfold Oper.wp
          go_simp
          exact (HI.out _ _ _).2 ⟨_, _, _, _, _, _, _, _, _, _, _, _, _, _, _, _, _, _, _, _, rfl, hT.val 2 (by decide) _ (by
            intro e he hde
            simp only [List.mem_cons, List.not_mem_nil, or_false] at he
            rcases he with rfl | rfl | rfl | rfl | rfl | rfl | rfl | rfl | rfl | rfl | rfl | rfl | rfl | rfl | rfl | rfl | rfl | rfl
            · first | rfl | (rw [also_ne _ (show 0 ≠ 2 by decide)] at hde; exact hT.vals _ (by simp) hde)
            · first | rfl | (rw [also_ne _ (show 1 ≠ 2 by decide)] at hde; exact hT.vals _ (by simp) hde)
            · rfl
            · first | rfl | (rw [also_ne _ (show 3 ≠ 2 by decide)] at hde; exact hT.vals _ (by simp) hde)
            · first | rfl | (rw [also_ne _ (show 4 ≠ 2 by decide)] at hde; exact hT.vals _ (by simp) hde)
            · first | rfl | (rw [also_ne _ (show 5 ≠ 2 by decide)] at hde; exact hT.vals _ (by simp) hde)
            · first | rfl | (rw [also_ne _ (show 6 ≠ 2 by decide)] at hde; exact hT.vals _ (by simp) hde)
            · first | rfl | (rw [also_ne _ (show 7 ≠ 2 by decide)] at hde; exact hT.vals _ (by simp) hde)
            · first | rfl | (rw [also_ne _ (show 8 ≠ 2 by decide)] at hde; exact hT.vals _ (by simp) hde)
            · first | rfl | (rw [also_ne _ (show 9 ≠ 2 by decide)] at hde; exact hT.vals _ (by simp) hde)
            · first | rfl | (rw [also_ne _ (show 10 ≠ 2 by decide)] at hde; exact hT.vals _ (by simp) hde)
            · first | rfl | (rw [also_ne _ (show 11 ≠ 2 by decide)] at hde; exact hT.vals _ (by simp) hde)
            · first | rfl | (rw [also_ne _ (show 12 ≠ 2 by decide)] at hde; exact hT.vals _ (by simp) hde)
            · first | rfl | (rw [also_ne _ (show 13 ≠ 2 by decide)] at hde; exact hT.vals _ (by simp) hde)
            · first | rfl | (rw [also_ne _ (show 14 ≠ 2 by decide)] at hde; exact hT.vals _ (by simp) hde)
            · first | rfl | (rw [also_ne _ (show 15 ≠ 2 by decide)] at hde; exact hT.vals _ (by simp) hde)
            · first | rfl | (rw [also_ne _ (show 16 ≠ 2 by decide)] at hde; exact hT.vals _ (by simp) hde)
            · first | rfl | (rw [also_ne _ (show 17 ≠ 2 by decide)] at hde; exact hT.vals _ (by simp) hde)
            ) (Below.refl _ _)⟩
        · obtain rfl := Option.some.inj ho
          have e2 := hT.vals _ (List.Mem.tail _ (List.Mem.tail _ (List.Mem.head _))) (hdep ⟨2, .data⟩ (by simp) rfl)
          dsimp only at e2
          subst e2
          refine .inl ?_
          unfold Oper.wp
          go_simp
          exact (HI.out _ _ _).2 ⟨_, _, _, _, _, _, _, _, _, _, _, _, _, _, _, _, _, _, _, _, rfl, hT.val 3 (by decide) _ (by
            intro e he hde
            simp only [List.mem_cons, List.not_mem_nil, or_false] at he
            rcases he with rfl | rfl | rfl | rfl | rfl | rfl | rfl | rfl | rfl | rfl | rfl | rfl | rfl | rfl | rfl | rfl | rfl | rfl
            · first | rfl | (rw [also_ne _ (show 0 ≠ 3 by decide)] at hde; exact hT.vals _ (by simp) hde)
            · first | rfl | (rw [also_ne _ (show 1 ≠ 3 by decide)] at hde; exact hT.vals _ (by simp) hde)
            · first | rfl | (rw [also_ne _ (show 2 ≠ 3 by decide)] at hde; exact hT.vals _ (by simp) hde)
            · (dsimp only; rw [HBt.out])
            · first | rfl | (rw [also_ne _ (show 4 ≠ 3 by decide)] at hde; exact hT.vals _ (by simp) hde)
            · first | rfl | (rw [also_ne _ (show 5 ≠ 3 by decide)] at hde; exact hT.vals _ (by simp) hde)
            · first | rfl | (rw [also_ne _ (show 6 ≠ 3 by decide)] at hde; exact hT.vals _ (by simp) hde)
            · first | rfl | (rw [also_ne _ (show 7 ≠ 3 by decide)] at hde; exact hT.vals _ (by simp) hde)
            · first | rfl | (rw [also_ne _ (show 8 ≠ 3 by decide)] at hde; exact hT.vals _ (by simp) hde)
            · first | rfl | (rw [also_ne _ (show 9 ≠ 3 by decide)] at hde; exact hT.vals _ (by simp) hde)
            · first | rfl | (rw [also_ne _ (show 10 ≠ 3 by decide)] at hde; exact hT.vals _ (by simp) hde)
            · first | rfl | (rw [also_ne _ (show 11 ≠ 3 by decide)] at hde; exact hT.vals _ (by simp) hde)
            · first | rfl | (rw [also_ne _ (show 12 ≠ 3 by decide)] at hde; exact hT.vals _ (by simp) hde)
            · first | rfl | (rw [also_ne _ (show 13 ≠ 3 by decide)] at hde; exact hT.vals _ (by simp) hde)
            · first | rfl | (rw [also_ne _ (show 14 ≠ 3 by decide)] at hde; exact hT.vals _ (by simp) hde)
            · first | rfl | (rw [also_ne _ (show 15 ≠ 3 by decide)] at hde; exact hT.vals _ (by simp) hde)
            · first | rfl | (rw [also_ne _ (show 16 ≠ 3 by decide)] at hde; exact hT.vals _ (by simp) hde)
            · first | rfl | (rw [also_ne _ (show 17 ≠ 3 by decide)] at hde; exact hT.vals _ (by simp) hde)
            ) (Below.refl _ _)⟩
        · obtain rfl := Option.some.inj ho
          have e3 := hT.vals _ (List.Mem.tail _ (List.Mem.tail _ (List.Mem.tail _ (List.Mem.head _)))) (hdep ⟨3, .data⟩ (by simp) rfl)
          dsimp only at e3
          subst e3
          refine .inl ?_
          unfold Oper.wp
          go_simp
          exact (HI.out _ _ _).2 ⟨_, _, _, _, _, _, _, _, _, _, _, _, _, _, _, _, _, _, _, _, rfl, hT.val 4 (by decide) _ (by
            intro e he hde
            simp only [List.mem_cons, List.not_mem_nil, or_false] at he
            rcases he with rfl | rfl | rfl | rfl | rfl | rfl | rfl | rfl | rfl | rfl | rfl | rfl | rfl | rfl | rfl | rfl | rfl | rfl
            · first | rfl | (rw [also_ne _ (show 0 ≠ 4 by decide)] at hde; exact hT.vals _ (by simp) hde)
            · first | rfl | (rw [also_ne _ (show 1 ≠ 4 by decide)] at hde; exact hT.vals _ (by simp) hde)
            · first | rfl | (rw [also_ne _ (show 2 ≠ 4 by decide)] at hde; exact hT.vals _ (by simp) hde)
            · first | rfl | (rw [also_ne _ (show 3 ≠ 4 by decide)] at hde; exact hT.vals _ (by simp) hde)
            · (dsimp only; rw [HBi.out])
            · first | rfl | (rw [also_ne _ (show 5 ≠ 4 by decide)] at hde; exact hT.vals _ (by simp) hde)
            · first | rfl | (rw [also_ne _ (show 6 ≠ 4 by decide)] at hde; exact hT.vals _ (by simp) hde)
            · first | rfl | (rw [also_ne _ (show 7 ≠ 4 by decide)] at hde; exact hT.vals _ (by simp) hde)
            · first | rfl | (rw [also_ne _ (show 8 ≠ 4 by decide)] at hde; exact hT.vals _ (by simp) hde)
            · first | rfl | (rw [also_ne _ (show 9 ≠ 4 by decide)] at hde; exact hT.vals _ (by simp) hde)
            · first | rfl | (rw [also_ne _ (show 10 ≠ 4 by decide)] at hde; exact hT.vals _ (by simp) hde)
            · first | rfl | (rw [also_ne _ (show 11 ≠ 4 by decide)] at hde; exact hT.vals _ (by simp) hde)
            · first | rfl | (rw [also_ne _ (show 12 ≠ 4 by decide)] at hde; exact hT.vals _ (by simp) hde)
            · first | rfl | (rw [also_ne _ (show 13 ≠ 4 by decide)] at hde; exact hT.vals _ (by simp) hde)
            · first | rfl | (rw [also_ne _ (show 14 ≠ 4 by decide)] at hde; exact hT.vals _ (by simp) hde)
            · first | rfl | (rw [also_ne _ (show 15 ≠ 4 by decide)] at hde; exact hT.vals _ (by simp) hde)
            · first | rfl | (rw [also_ne _ (show 16 ≠ 4 by decide)] at hde; exact hT.vals _ (by simp) hde)
            · first | rfl | (rw [also_ne _ (show 17 ≠ 4 by decide)] at hde; exact hT.vals _ (by simp) hde)
            ) (Below.refl _ _)⟩
        · obtain rfl := Option.some.inj ho
          refine .inl ?_
          unfold Oper.wp
          go_simp
          exact (HI.out _ _ _).2 ⟨_, _, _, _, _, _, _, _, _, _, _, _, _, _, _, _, _, _, _, _, rfl, hT.val 5 (by decide) _ (by
            intro e he hde
            simp only [List.mem_cons, List.not_mem_nil, or_false] at he
            rcases he with rfl | rfl | rfl | rfl | rfl | rfl | rfl | rfl | rfl | rfl | rfl | rfl | rfl | rfl | rfl | rfl | rfl | rfl
            · first | rfl | (rw [also_ne _ (show 0 ≠ 5 by decide)] at hde; exact hT.vals _ (by simp) hde)
            · first | rfl | (rw [also_ne _ (show 1 ≠ 5 by decide)] at hde; exact hT.vals _ (by simp) hde)
            · first | rfl | (rw [also_ne _ (show 2 ≠ 5 by decide)] at hde; exact hT.vals _ (by simp) hde)
            · first | rfl | (rw [also_ne _ (show 3 ≠ 5 by decide)] at hde; exact hT.vals _ (by simp) hde)
            · first | rfl | (rw [also_ne _ (show 4 ≠ 5 by decide)] at hde; exact hT.vals _ (by simp) hde)
            · rfl
            · first | rfl | (rw [also_ne _ (show 6 ≠ 5 by decide)] at hde; exact hT.vals _ (by simp) hde)
            · first | rfl | (rw [also_ne _ (show 7 ≠ 5 by decide)] at hde; exact hT.vals _ (by simp) hde)
            · first | rfl | (rw [also_ne _ (show 8 ≠ 5 by decide)] at hde; exact hT.vals _ (by simp) hde)
            · first | rfl | (rw [also_ne _ (show 9 ≠ 5 by decide)] at hde; exact hT.vals _ (by simp) hde)
            · first | rfl | (rw [also_ne _ (show 10 ≠ 5 by decide)] at hde; exact hT.vals _ (by simp) hde)
            · first | rfl | (rw [also_ne _ (show 11 ≠ 5 by decide)] at hde; exact hT.vals _ (by simp) hde)
            · first | rfl | (rw [also_ne _ (show 12 ≠ 5 by decide)] at hde; exact hT.vals _ (by simp) hde)
            · first | rfl | (rw [also_ne _ (show 13 ≠ 5 by decide)] at hde; exact hT.vals _ (by simp) hde)
            · first | rfl | (rw [also_ne _ (show 14 ≠ 5 by decide)] at hde; exact hT.vals _ (by simp) hde)
            · first | rfl | (rw [also_ne _ (show 15 ≠ 5 by decide)] at hde; exact hT.vals _ (by simp) hde)
            · first | rfl | (rw [also_ne _ (show 16 ≠ 5 by decide)] at hde; exact hT.vals _ (by simp) hde)
            · first | rfl | (rw [also_ne _ (show 17 ≠ 5 by decide)] at hde; exact hT.vals _ (by simp) hde)
            ) (Below.refl _ _)⟩
        · obtain rfl := Option.some.inj ho
          have e5 := hT.vals _ (List.Mem.tail _ (List.Mem.tail _ (List.Mem.tail _ (List.Mem.tail _ (List.Mem.tail _ (List.Mem.head _)))))) (hdep ⟨5, .data⟩ (by simp) rfl)
          dsimp only at e5
          subst e5
          refine .inl ?_
          unfold Oper.wp
          go_simp
          exact (HI.out _ _ _).2 ⟨_, _, _, _, _, _, _, _, _, _, _, _, _, _, _, _, _, _, _, _, rfl, hT.val 6 (by decide) _ (by
            intro e he hde
            simp only [List.mem_cons, List.not_mem_nil, or_false] at he
            rcases he with rfl | rfl | rfl | rfl | rfl | rfl | rfl | rfl | rfl | rfl | rfl | rfl | rfl | rfl | rfl | rfl | rfl | rfl
            · first | rfl | (rw [also_ne _ (show 0 ≠ 6 by decide)] at hde; exact hT.vals _ (by simp) hde)
            · first | rfl | (rw [also_ne _ (show 1 ≠ 6 by decide)] at hde; exact hT.vals _ (by simp) hde)
            · first | rfl | (rw [also_ne _ (show 2 ≠ 6 by decide)] at hde; exact hT.vals _ (by simp) hde)
            · first | rfl | (rw [also_ne _ (show 3 ≠ 6 by decide)] at hde; exact hT.vals _ (by simp) hde)
            · first | rfl | (rw [also_ne _ (show 4 ≠ 6 by decide)] at hde; exact hT.vals _ (by simp) hde)
            · first | rfl | (rw [also_ne _ (show 5 ≠ 6 by decide)] at hde; exact hT.vals _ (by simp) hde)
            · (dsimp only; rw [HTt.out])
            · first | rfl | (rw [also_ne _ (show 7 ≠ 6 by decide)] at hde; exact hT.vals _ (by simp) hde)
            · first | rfl | (rw [also_ne _ (show 8 ≠ 6 by decide)] at hde; exact hT.vals _ (by simp) hde)
            · first | rfl | (rw [also_ne _ (show 9 ≠ 6 by decide)] at hde; exact hT.vals _ (by simp) hde)
            · first | rfl | (rw [also_ne _ (show 10 ≠ 6 by decide)] at hde; exact hT.vals _ (by simp) hde)
            · first | rfl | (rw [also_ne _ (show 11 ≠ 6 by decide)] at hde; exact hT.vals _ (by simp) hde)
            · first | rfl | (rw [also_ne _ (show 12 ≠ 6 by decide)] at hde; exact hT.vals _ (by simp) hde)
            · first | rfl | (rw [also_ne _ (show 13 ≠ 6 by decide)] at hde; exact hT.vals _ (by simp) hde)
            · first | rfl | (rw [also_ne _ (show 14 ≠ 6 by decide)] at hde; exact hT.vals _ (by simp) hde)
            · first | rfl | (rw [also_ne _ (show 15 ≠ 6 by decide)] at hde; exact hT.vals _ (by simp) hde)
            · first | rfl | (rw [also_ne _ (show 16 ≠ 6 by decide)] at hde; exact hT.vals _ (by simp) hde)
            · first | rfl | (rw [also_ne _ (show 17 ≠ 6 by decide)] at hde; exact hT.vals _ (by simp) hde)
            ) (Below.refl _ _)⟩
        · obtain rfl := Option.some.inj ho
          have e6 := hT.vals _ (List.Mem.tail _ (List.Mem.tail _ (List.Mem.tail _ (List.Mem.tail _ (List.Mem.tail _ (List.Mem.tail _ (List.Mem.head _))))))) (hdep ⟨6, .data⟩ (by simp) rfl)
          dsimp only at e6
          subst e6
          refine .inl ?_
          unfold Oper.wp
          go_simp
          exact (HI.out _ _ _).2 ⟨_, _, _, _, _, _, _, _, _, _, _, _, _, _, _, _, _, _, _, _, rfl, hT.val 7 (by decide) _ (by
            intro e he hde
            simp only [List.mem_cons, List.not_mem_nil, or_false] at he
            rcases he with rfl | rfl | rfl | rfl | rfl | rfl | rfl | rfl | rfl | rfl | rfl | rfl | rfl | rfl | rfl | rfl | rfl | rfl
            · first | rfl | (rw [also_ne _ (show 0 ≠ 7 by decide)] at hde; exact hT.vals _ (by simp) hde)
            · first | rfl | (rw [also_ne _ (show 1 ≠ 7 by decide)] at hde; exact hT.vals _ (by simp) hde)
            · first | rfl | (rw [also_ne _ (show 2 ≠ 7 by decide)] at hde; exact hT.vals _ (by simp) hde)
            · first | rfl | (rw [also_ne _ (show 3 ≠ 7 by decide)] at hde; exact hT.vals _ (by simp) hde)
            · first | rfl | (rw [also_ne _ (show 4 ≠ 7 by decide)] at hde; exact hT.vals _ (by simp) hde)
            · first | rfl | (rw [also_ne _ (show 5 ≠ 7 by decide)] at hde; exact hT.vals _ (by simp) hde)
            · first | rfl | (rw [also_ne _ (show 6 ≠ 7 by decide)] at hde; exact hT.vals _ (by simp) hde)
            · (dsimp only; rw [HTi.out])
            · first | rfl | (rw [also_ne _ (show 8 ≠ 7 by decide)] at hde; exact hT.vals _ (by simp) hde)
            · first | rfl | (rw [also_ne _ (show 9 ≠ 7 by decide)] at hde; exact hT.vals _ (by simp) hde)
            · first | rfl | (rw [also_ne _ (show 10 ≠ 7 by decide)] at hde; exact hT.vals _ (by simp) hde)
            · first | rfl | (rw [also_ne _ (show 11 ≠ 7 by decide)] at hde; exact hT.vals _ (by simp) hde)
            · first | rfl | (rw [also_ne _ (show 12 ≠ 7 by decide)] at hde; exact hT.vals _ (by simp) hde)
            · first | rfl | (rw [also_ne _ (show 13 ≠ 7 by decide)] at hde; exact hT.vals _ (by simp) hde)
            · first | rfl | (rw [also_ne _ (show 14 ≠ 7 by decide)] at hde; exact hT.vals _ (by simp) hde)
            · first | rfl | (rw [also_ne _ (show 15 ≠ 7 by decide)] at hde; exact hT.vals _ (by simp) hde)
            · first | rfl | (rw [also_ne _ (show 16 ≠ 7 by decide)] at hde; exact hT.vals _ (by simp) hde)
            · first | rfl | (rw [also_ne _ (show 17 ≠ 7 by decide)] at hde; exact hT.vals _ (by simp) hde)
            ) (Below.refl _ _)⟩
        · obtain rfl := Option.some.inj ho
          have e0 := hT.vals _ (List.Mem.head _) (hdep ⟨0, .data⟩ (by simp) rfl)
          dsimp only at e0
          subst e0
          have e1 := hT.vals _ (List.Mem.tail _ (List.Mem.head _)) (hdep ⟨1, .data⟩ (by simp) rfl)
          dsimp only at e1
          subst e1
          have e4 := hT.vals _ (List.Mem.tail _ (List.Mem.tail _ (List.Mem.tail _ (List.Mem.tail _ (List.Mem.head _))))) (hdep ⟨4, .data⟩ (by simp) rfl)
          dsimp only at e4
          subst e4
          have e7 := hT.vals _ (List.Mem.tail _ (List.Mem.tail _ (List.Mem.tail _ (List.Mem.tail _ (List.Mem.tail _ (List.Mem.tail _ (List.Mem.tail _ (List.Mem.head _)))))))) (hdep ⟨7, .data⟩ (by simp) rfl)
          dsimp only at e7
          subst e7
          have HT := Lib.hid hT
          have HB := Lib.hid hT.below
          have hgx := HG2.out.below HB.out
          clear hT hdep
          refine .inl ?_
          unfold Oper.wp
          go_simp
          (with_reducible refine (r3.out _ hgx).mono ?_); rintro e w1 ⟨rfl, hb1⟩
          have hT := HT.out
          exact (HI.out _ _ _).2 ⟨_, _, _, _, _, _, _, _, _, _, _, _, _, _, _, _, _, _, _, _, rfl, hT.val 8 (by decide) _ (by
            intro e he hde
            simp only [List.mem_cons, List.not_mem_nil, or_false] at he
            rcases he with rfl | rfl | rfl | rfl | rfl | rfl | rfl | rfl | rfl | rfl | rfl | rfl | rfl | rfl | rfl | rfl | rfl | rfl
            · first | rfl | (rw [also_ne _ (show 0 ≠ 8 by decide)] at hde; exact hT.vals _ (by simp) hde)
            · first | rfl | (rw [also_ne _ (show 1 ≠ 8 by decide)] at hde; exact hT.vals _ (by simp) hde)
            · first | rfl | (rw [also_ne _ (show 2 ≠ 8 by decide)] at hde; exact hT.vals _ (by simp) hde)
            · first | rfl | (rw [also_ne _ (show 3 ≠ 8 by decide)] at hde; exact hT.vals _ (by simp) hde)
            · first | rfl | (rw [also_ne _ (show 4 ≠ 8 by decide)] at hde; exact hT.vals _ (by simp) hde)
            · first | rfl | (rw [also_ne _ (show 5 ≠ 8 by decide)] at hde; exact hT.vals _ (by simp) hde)
            · first | rfl | (rw [also_ne _ (show 6 ≠ 8 by decide)] at hde; exact hT.vals _ (by simp) hde)
            · first | rfl | (rw [also_ne _ (show 7 ≠ 8 by decide)] at hde; exact hT.vals _ (by simp) hde)
            · rfl
            · first | rfl | (rw [also_ne _ (show 9 ≠ 8 by decide)] at hde; exact hT.vals _ (by simp) hde)
            · first | rfl | (rw [also_ne _ (show 10 ≠ 8 by decide)] at hde; exact hT.vals _ (by simp) hde)
            · first | rfl | (rw [also_ne _ (show 11 ≠ 8 by decide)] at hde; exact hT.vals _ (by simp) hde)
            · first | rfl | (rw [also_ne _ (show 12 ≠ 8 by decide)] at hde; exact hT.vals _ (by simp) hde)
            · first | rfl | (rw [also_ne _ (show 13 ≠ 8 by decide)] at hde; exact hT.vals _ (by simp) hde)
            · first | rfl | (rw [also_ne _ (show 14 ≠ 8 by decide)] at hde; exact hT.vals _ (by simp) hde)
            · first | rfl | (rw [also_ne _ (show 15 ≠ 8 by decide)] at hde; exact hT.vals _ (by simp) hde)
            · first | rfl | (rw [also_ne _ (show 16 ≠ 8 by decide)] at hde; exact hT.vals _ (by simp) hde)
            · first | rfl | (rw [also_ne _ (show 17 ≠ 8 by decide)] at hde; exact hT.vals _ (by simp) hde)
            ) hb1⟩
        · obtain rfl := Option.some.inj ho
          refine .inl (wp_load_row 23 (.tmp 5) rfl b rfl 23 _ (0, 0) _ ((hT.below.block b hbl1.out).trans hk1.out) Tryd.underlying23 rfl hsz.out ?_)
          exact (HI.out _ _ _).2 ⟨_, _, _, _, _, _, _, _, _, _, _, _, _, _, _, _, _, _, _, _, rfl, hT.val 9 (by decide) _ (by
            intro e he hde
            simp only [List.mem_cons, List.not_mem_nil, or_false] at he
            rcases he with rfl | rfl | rfl | rfl | rfl | rfl | rfl | rfl | rfl | rfl | rfl | rfl | rfl | rfl | rfl | rfl | rfl | rfl
            · first | rfl | (rw [also_ne _ (show 0 ≠ 9 by decide)] at hde; exact hT.vals _ (by simp) hde)
            · first | rfl | (rw [also_ne _ (show 1 ≠ 9 by decide)] at hde; exact hT.vals _ (by simp) hde)
            · first | rfl | (rw [also_ne _ (show 2 ≠ 9 by decide)] at hde; exact hT.vals _ (by simp) hde)
            · first | rfl | (rw [also_ne _ (show 3 ≠ 9 by decide)] at hde; exact hT.vals _ (by simp) hde)
            · first | rfl | (rw [also_ne _ (show 4 ≠ 9 by decide)] at hde; exact hT.vals _ (by simp) hde)
            · first | rfl | (rw [also_ne _ (show 5 ≠ 9 by decide)] at hde; exact hT.vals _ (by simp) hde)
            · first | rfl | (rw [also_ne _ (show 6 ≠ 9 by decide)] at hde; exact hT.vals _ (by simp) hde)
            · first | rfl | (rw [also_ne _ (show 7 ≠ 9 by decide)] at hde; exact hT.vals _ (by simp) hde)
            · first | rfl | (rw [also_ne _ (show 8 ≠ 9 by decide)] at hde; exact hT.vals _ (by simp) hde)
            · rfl
            · first | rfl | (rw [also_ne _ (show 10 ≠ 9 by decide)] at hde; exact hT.vals _ (by simp) hde)
            · first | rfl | (rw [also_ne _ (show 11 ≠ 9 by decide)] at hde; exact hT.vals _ (by simp) hde)
            · first | rfl | (rw [also_ne _ (show 12 ≠ 9 by decide)] at hde; exact hT.vals _ (by simp) hde)
            · first | rfl | (rw [also_ne _ (show 13 ≠ 9 by decide)] at hde; exact hT.vals _ (by simp) hde)
            · first | rfl | (rw [also_ne _ (show 14 ≠ 9 by decide)] at hde; exact hT.vals _ (by simp) hde)
            · first | rfl | (rw [also_ne _ (show 15 ≠ 9 by decide)] at hde; exact hT.vals _ (by simp) hde)
            · first | rfl | (rw [also_ne _ (show 16 ≠ 9 by decide)] at hde; exact hT.vals _ (by simp) hde)
            · first | rfl | (rw [also_ne _ (show 17 ≠ 9 by decide)] at hde; exact hT.vals _ (by simp) hde)
            ) (Below.refl _ _)⟩
        · obtain rfl := Option.some.inj ho
          refine .inl ?_
          unfold Oper.wp
          go_simp
          exact (HI.out _ _ _).2 ⟨_, _, _, _, _, _, _, _, _, _, _, _, _, _, _, _, _, _, _, _, rfl, hT.val 10 (by decide) _ (by
            intro e he hde
            simp only [List.mem_cons, List.not_mem_nil, or_false] at he
            rcases he with rfl | rfl | rfl | rfl | rfl | rfl | rfl | rfl | rfl | rfl | rfl | rfl | rfl | rfl | rfl | rfl | rfl | rfl
            · first | rfl | (rw [also_ne _ (show 0 ≠ 10 by decide)] at hde; exact hT.vals _ (by simp) hde)
            · first | rfl | (rw [also_ne _ (show 1 ≠ 10 by decide)] at hde; exact hT.vals _ (by simp) hde)
            · first | rfl | (rw [also_ne _ (show 2 ≠ 10 by decide)] at hde; exact hT.vals _ (by simp) hde)
            · first | rfl | (rw [also_ne _ (show 3 ≠ 10 by decide)] at hde; exact hT.vals _ (by simp) hde)
            · first | rfl | (rw [also_ne _ (show 4 ≠ 10 by decide)] at hde; exact hT.vals _ (by simp) hde)
            · first | rfl | (rw [also_ne _ (show 5 ≠ 10 by decide)] at hde; exact hT.vals _ (by simp) hde)
            · first | rfl | (rw [also_ne _ (show 6 ≠ 10 by decide)] at hde; exact hT.vals _ (by simp) hde)
            · first | rfl | (rw [also_ne _ (show 7 ≠ 10 by decide)] at hde; exact hT.vals _ (by simp) hde)
            · first | rfl | (rw [also_ne _ (show 8 ≠ 10 by decide)] at hde; exact hT.vals _ (by simp) hde)
            · first | rfl | (rw [also_ne _ (show 9 ≠ 10 by decide)] at hde; exact hT.vals _ (by simp) hde)
            · rfl
            · first | rfl | (rw [also_ne _ (show 11 ≠ 10 by decide)] at hde; exact hT.vals _ (by simp) hde)
            · first | rfl | (rw [also_ne _ (show 12 ≠ 10 by decide)] at hde; exact hT.vals _ (by simp) hde)
            · first | rfl | (rw [also_ne _ (show 13 ≠ 10 by decide)] at hde; exact hT.vals _ (by simp) hde)
            · first | rfl | (rw [also_ne _ (show 14 ≠ 10 by decide)] at hde; exact hT.vals _ (by simp) hde)
            · first | rfl | (rw [also_ne _ (show 15 ≠ 10 by decide)] at hde; exact hT.vals _ (by simp) hde)
            · first | rfl | (rw [also_ne _ (show 16 ≠ 10 by decide)] at hde; exact hT.vals _ (by simp) hde)
            · first | rfl | (rw [also_ne _ (show 17 ≠ 10 by decide)] at hde; exact hT.vals _ (by simp) hde)
            ) (Below.refl _ _)⟩
        · obtain rfl := Option.some.inj ho
          refine .inl ?_
          unfold Oper.wp
          go_simp
          exact (HI.out _ _ _).2 ⟨_, _, _, _, _, _, _, _, _, _, _, _, _, _, _, _, _, _, _, _, rfl, hT.val 11 (by decide) _ (by
            intro e he hde
            simp only [List.mem_cons, List.not_mem_nil, or_false] at he
            rcases he with rfl | rfl | rfl | rfl | rfl | rfl | rfl | rfl | rfl | rfl | rfl | rfl | rfl | rfl | rfl | rfl | rfl | rfl
            · first | rfl | (rw [also_ne _ (show 0 ≠ 11 by decide)] at hde; exact hT.vals _ (by simp) hde)
            · first | rfl | (rw [also_ne _ (show 1 ≠ 11 by decide)] at hde; exact hT.vals _ (by simp) hde)
            · first | rfl | (rw [also_ne _ (show 2 ≠ 11 by decide)] at hde; exact hT.vals _ (by simp) hde)
            · first | rfl | (rw [also_ne _ (show 3 ≠ 11 by decide)] at hde; exact hT.vals _ (by simp) hde)
            · first | rfl | (rw [also_ne _ (show 4 ≠ 11 by decide)] at hde; exact hT.vals _ (by simp) hde)
            · first | rfl | (rw [also_ne _ (show 5 ≠ 11 by decide)] at hde; exact hT.vals _ (by simp) hde)
            · first | rfl | (rw [also_ne _ (show 6 ≠ 11 by decide)] at hde; exact hT.vals _ (by simp) hde)
            · first | rfl | (rw [also_ne _ (show 7 ≠ 11 by decide)] at hde; exact hT.vals _ (by simp) hde)
            · first | rfl | (rw [also_ne _ (show 8 ≠ 11 by decide)] at hde; exact hT.vals _ (by simp) hde)
            · first | rfl | (rw [also_ne _ (show 9 ≠ 11 by decide)] at hde; exact hT.vals _ (by simp) hde)
            · first | rfl | (rw [also_ne _ (show 10 ≠ 11 by decide)] at hde; exact hT.vals _ (by simp) hde)
            · rfl
            · first | rfl | (rw [also_ne _ (show 12 ≠ 11 by decide)] at hde; exact hT.vals _ (by simp) hde)
            · first | rfl | (rw [also_ne _ (show 13 ≠ 11 by decide)] at hde; exact hT.vals _ (by simp) hde)
            · first | rfl | (rw [also_ne _ (show 14 ≠ 11 by decide)] at hde; exact hT.vals _ (by simp) hde)
            · first | rfl | (rw [also_ne _ (show 15 ≠ 11 by decide)] at hde; exact hT.vals _ (by simp) hde)
            · first | rfl | (rw [also_ne _ (show 16 ≠ 11 by decide)] at hde; exact hT.vals _ (by simp) hde)
            · first | rfl | (rw [also_ne _ (show 17 ≠ 11 by decide)] at hde; exact hT.vals _ (by simp) hde)
            ) (Below.refl _ _)⟩
        · obtain rfl := Option.some.inj ho
          have e11 := hT.vals _ (List.Mem.tail _ (List.Mem.tail _ (List.Mem.tail _ (List.Mem.tail _ (List.Mem.tail _ (List.Mem.tail _ (List.Mem.tail _ (List.Mem.tail _ (List.Mem.tail _ (List.Mem.tail _ (List.Mem.tail _ (List.Mem.head _)))))))))))) (hdep ⟨11, .data⟩ (by simp) rfl)
          dsimp only at e11
          subst e11
          refine .inl ?_
          unfold Oper.wp
          go_simp
          exact (HI.out _ _ _).2 ⟨_, _, _, _, _, _, _, _, _, _, _, _, _, _, _, _, _, _, _, _, rfl, hT.val 12 (by decide) _ (by
            intro e he hde
            simp only [List.mem_cons, List.not_mem_nil, or_false] at he
            rcases he with rfl | rfl | rfl | rfl | rfl | rfl | rfl | rfl | rfl | rfl | rfl | rfl | rfl | rfl | rfl | rfl | rfl | rfl
            · first | rfl | (rw [also_ne _ (show 0 ≠ 12 by decide)] at hde; exact hT.vals _ (by simp) hde)
            · first | rfl | (rw [also_ne _ (show 1 ≠ 12 by decide)] at hde; exact hT.vals _ (by simp) hde)
            · first | rfl | (rw [also_ne _ (show 2 ≠ 12 by decide)] at hde; exact hT.vals _ (by simp) hde)
            · first | rfl | (rw [also_ne _ (show 3 ≠ 12 by decide)] at hde; exact hT.vals _ (by simp) hde)
            · first | rfl | (rw [also_ne _ (show 4 ≠ 12 by decide)] at hde; exact hT.vals _ (by simp) hde)
            · first | rfl | (rw [also_ne _ (show 5 ≠ 12 by decide)] at hde; exact hT.vals _ (by simp) hde)
            · first | rfl | (rw [also_ne _ (show 6 ≠ 12 by decide)] at hde; exact hT.vals _ (by simp) hde)
            · first | rfl | (rw [also_ne _ (show 7 ≠ 12 by decide)] at hde; exact hT.vals _ (by simp) hde)
            · first | rfl | (rw [also_ne _ (show 8 ≠ 12 by decide)] at hde; exact hT.vals _ (by simp) hde)
            · first | rfl | (rw [also_ne _ (show 9 ≠ 12 by decide)] at hde; exact hT.vals _ (by simp) hde)
            · first | rfl | (rw [also_ne _ (show 10 ≠ 12 by decide)] at hde; exact hT.vals _ (by simp) hde)
            · first | rfl | (rw [also_ne _ (show 11 ≠ 12 by decide)] at hde; exact hT.vals _ (by simp) hde)
            · (dsimp only; rw [HBt.out])
            · first | rfl | (rw [also_ne _ (show 13 ≠ 12 by decide)] at hde; exact hT.vals _ (by simp) hde)
            · first | rfl | (rw [also_ne _ (show 14 ≠ 12 by decide)] at hde; exact hT.vals _ (by simp) hde)
            · first | rfl | (rw [also_ne _ (show 15 ≠ 12 by decide)] at hde; exact hT.vals _ (by simp) hde)
            · first | rfl | (rw [also_ne _ (show 16 ≠ 12 by decide)] at hde; exact hT.vals _ (by simp) hde)
            · first | rfl | (rw [also_ne _ (show 17 ≠ 12 by decide)] at hde; exact hT.vals _ (by simp) hde)
            ) (Below.refl _ _)⟩
        · obtain rfl := Option.some.inj ho
          have e12 := hT.vals _ (List.Mem.tail _ (List.Mem.tail _ (List.Mem.tail _ (List.Mem.tail _ (List.Mem.tail _ (List.Mem.tail _ (List.Mem.tail _ (List.Mem.tail _ (List.Mem.tail _ (List.Mem.tail _ (List.Mem.tail _ (List.Mem.tail _ (List.Mem.head _))))))))))))) (hdep ⟨12, .data⟩ (by simp) rfl)
          dsimp only at e12
          subst e12
          refine .inl ?_
          unfold Oper.wp
          go_simp
          exact (HI.out _ _ _).2 ⟨_, _, _, _, _, _, _, _, _, _, _, _, _, _, _, _, _, _, _, _, rfl, hT.val 13 (by decide) _ (by
            intro e he hde
            simp only [List.mem_cons, List.not_mem_nil, or_false] at he
            rcases he with rfl | rfl | rfl | rfl | rfl | rfl | rfl | rfl | rfl | rfl | rfl | rfl | rfl | rfl | rfl | rfl | rfl | rfl
            · first | rfl | (rw [also_ne _ (show 0 ≠ 13 by decide)] at hde; exact hT.vals _ (by simp) hde)
            · first | rfl | (rw [also_ne _ (show 1 ≠ 13 by decide)] at hde; exact hT.vals _ (by simp) hde)
            · first | rfl | (rw [also_ne _ (show 2 ≠ 13 by decide)] at hde; exact hT.vals _ (by simp) hde)
            · first | rfl | (rw [also_ne _ (show 3 ≠ 13 by decide)] at hde; exact hT.vals _ (by simp) hde)
            · first | rfl | (rw [also_ne _ (show 4 ≠ 13 by decide)] at hde; exact hT.vals _ (by simp) hde)
            · first | rfl | (rw [also_ne _ (show 5 ≠ 13 by decide)] at hde; exact hT.vals _ (by simp) hde)
            · first | rfl | (rw [also_ne _ (show 6 ≠ 13 by decide)] at hde; exact hT.vals _ (by simp) hde)
            · first | rfl | (rw [also_ne _ (show 7 ≠ 13 by decide)] at hde; exact hT.vals _ (by simp) hde)
            · first | rfl | (rw [also_ne _ (show 8 ≠ 13 by decide)] at hde; exact hT.vals _ (by simp) hde)
            · first | rfl | (rw [also_ne _ (show 9 ≠ 13 by decide)] at hde; exact hT.vals _ (by simp) hde)
            · first | rfl | (rw [also_ne _ (show 10 ≠ 13 by decide)] at hde; exact hT.vals _ (by simp) hde)
            · first | rfl | (rw [also_ne _ (show 11 ≠ 13 by decide)] at hde; exact hT.vals _ (by simp) hde)
            · first | rfl | (rw [also_ne _ (show 12 ≠ 13 by decide)] at hde; exact hT.vals _ (by simp) hde)
            · (dsimp only; rw [HBi.out])
            · first | rfl | (rw [also_ne _ (show 14 ≠ 13 by decide)] at hde; exact hT.vals _ (by simp) hde)
            · first | rfl | (rw [also_ne _ (show 15 ≠ 13 by decide)] at hde; exact hT.vals _ (by simp) hde)
            · first | rfl | (rw [also_ne _ (show 16 ≠ 13 by decide)] at hde; exact hT.vals _ (by simp) hde)
            · first | rfl | (rw [also_ne _ (show 17 ≠ 13 by decide)] at hde; exact hT.vals _ (by simp) hde)
            ) (Below.refl _ _)⟩
        · obtain rfl := Option.some.inj ho
          refine .inl ?_
          unfold Oper.wp
          go_simp
          exact (HI.out _ _ _).2 ⟨_, _, _, _, _, _, _, _, _, _, _, _, _, _, _, _, _, _, _, _, rfl, hT.val 14 (by decide) _ (by
            intro e he hde
            simp only [List.mem_cons, List.not_mem_nil, or_false] at he
            rcases he with rfl | rfl | rfl | rfl | rfl | rfl | rfl | rfl | rfl | rfl | rfl | rfl | rfl | rfl | rfl | rfl | rfl | rfl
            · first | rfl | (rw [also_ne _ (show 0 ≠ 14 by decide)] at hde; exact hT.vals _ (by simp) hde)
            · first | rfl | (rw [also_ne _ (show 1 ≠ 14 by decide)] at hde; exact hT.vals _ (by simp) hde)
            · first | rfl | (rw [also_ne _ (show 2 ≠ 14 by decide)] at hde; exact hT.vals _ (by simp) hde)
            · first | rfl | (rw [also_ne _ (show 3 ≠ 14 by decide)] at hde; exact hT.vals _ (by simp) hde)
            · first | rfl | (rw [also_ne _ (show 4 ≠ 14 by decide)] at hde; exact hT.vals _ (by simp) hde)
            · first | rfl | (rw [also_ne _ (show 5 ≠ 14 by decide)] at hde; exact hT.vals _ (by simp) hde)
            · first | rfl | (rw [also_ne _ (show 6 ≠ 14 by decide)] at hde; exact hT.vals _ (by simp) hde)
            · first | rfl | (rw [also_ne _ (show 7 ≠ 14 by decide)] at hde; exact hT.vals _ (by simp) hde)
            · first | rfl | (rw [also_ne _ (show 8 ≠ 14 by decide)] at hde; exact hT.vals _ (by simp) hde)
            · first | rfl | (rw [also_ne _ (show 9 ≠ 14 by decide)] at hde; exact hT.vals _ (by simp) hde)
            · first | rfl | (rw [also_ne _ (show 10 ≠ 14 by decide)] at hde; exact hT.vals _ (by simp) hde)
            · first | rfl | (rw [also_ne _ (show 11 ≠ 14 by decide)] at hde; exact hT.vals _ (by simp) hde)
            · first | rfl | (rw [also_ne _ (show 12 ≠ 14 by decide)] at hde; exact hT.vals _ (by simp) hde)
            · first | rfl | (rw [also_ne _ (show 13 ≠ 14 by decide)] at hde; exact hT.vals _ (by simp) hde)
            · rfl
            · first | rfl | (rw [also_ne _ (show 15 ≠ 14 by decide)] at hde; exact hT.vals _ (by simp) hde)
            · first | rfl | (rw [also_ne _ (show 16 ≠ 14 by decide)] at hde; exact hT.vals _ (by simp) hde)
            · first | rfl | (rw [also_ne _ (show 17 ≠ 14 by decide)] at hde; exact hT.vals _ (by simp) hde)
            ) (Below.refl _ _)⟩
        · obtain rfl := Option.some.inj ho
          have e14 := hT.vals _ (List.Mem.tail _ (List.Mem.tail _ (List.Mem.tail _ (List.Mem.tail _ (List.Mem.tail _ (List.Mem.tail _ (List.Mem.tail _ (List.Mem.tail _ (List.Mem.tail _ (List.Mem.tail _ (List.Mem.tail _ (List.Mem.tail _ (List.Mem.tail _ (List.Mem.tail _ (List.Mem.head _))))))))))))))) (hdep ⟨14, .data⟩ (by simp) rfl)
          dsimp only at e14
          subst e14
          refine .inl ?_
          unfold Oper.wp
          go_simp
          exact (HI.out _ _ _).2 ⟨_, _, _, _, _, _, _, _, _, _, _, _, _, _, _, _, _, _, _, _, rfl, hT.val 15 (by decide) _ (by
            intro e he hde
            simp only [List.mem_cons, List.not_mem_nil, or_false] at he
            rcases he with rfl | rfl | rfl | rfl | rfl | rfl | rfl | rfl | rfl | rfl | rfl | rfl | rfl | rfl | rfl | rfl | rfl | rfl
            · first | rfl | (rw [also_ne _ (show 0 ≠ 15 by decide)] at hde; exact hT.vals _ (by simp) hde)
            · first | rfl | (rw [also_ne _ (show 1 ≠ 15 by decide)] at hde; exact hT.vals _ (by simp) hde)
            · first | rfl | (rw [also_ne _ (show 2 ≠ 15 by decide)] at hde; exact hT.vals _ (by simp) hde)
            · first | rfl | (rw [also_ne _ (show 3 ≠ 15 by decide)] at hde; exact hT.vals _ (by simp) hde)
            · first | rfl | (rw [also_ne _ (show 4 ≠ 15 by decide)] at hde; exact hT.vals _ (by simp) hde)
            · first | rfl | (rw [also_ne _ (show 5 ≠ 15 by decide)] at hde; exact hT.vals _ (by simp) hde)
            · first | rfl | (rw [also_ne _ (show 6 ≠ 15 by decide)] at hde; exact hT.vals _ (by simp) hde)
            · first | rfl | (rw [also_ne _ (show 7 ≠ 15 by decide)] at hde; exact hT.vals _ (by simp) hde)
            · first | rfl | (rw [also_ne _ (show 8 ≠ 15 by decide)] at hde; exact hT.vals _ (by simp) hde)
            · first | rfl | (rw [also_ne _ (show 9 ≠ 15 by decide)] at hde; exact hT.vals _ (by simp) hde)
            · first | rfl | (rw [also_ne _ (show 10 ≠ 15 by decide)] at hde; exact hT.vals _ (by simp) hde)
            · first | rfl | (rw [also_ne _ (show 11 ≠ 15 by decide)] at hde; exact hT.vals _ (by simp) hde)
            · first | rfl | (rw [also_ne _ (show 12 ≠ 15 by decide)] at hde; exact hT.vals _ (by simp) hde)
            · first | rfl | (rw [also_ne _ (show 13 ≠ 15 by decide)] at hde; exact hT.vals _ (by simp) hde)
            · first | rfl | (rw [also_ne _ (show 14 ≠ 15 by decide)] at hde; exact hT.vals _ (by simp) hde)
            · (dsimp only; rw [HTt.out])
            · first | rfl | (rw [also_ne _ (show 16 ≠ 15 by decide)] at hde; exact hT.vals _ (by simp) hde)
            · first | rfl | (rw [also_ne _ (show 17 ≠ 15 by decide)] at hde; exact hT.vals _ (by simp) hde)
            ) (Below.refl _ _)⟩
        · obtain rfl := Option.some.inj ho
          have e15 := hT.vals _ (List.Mem.tail _ (List.Mem.tail _ (List.Mem.tail _ (List.Mem.tail _ (List.Mem.tail _ (List.Mem.tail _ (List.Mem.tail _ (List.Mem.tail _ (List.Mem.tail _ (List.Mem.tail _ (List.Mem.tail _ (List.Mem.tail _ (List.Mem.tail _ (List.Mem.tail _ (List.Mem.tail _ (List.Mem.head _)))))))))))))))) (hdep ⟨15, .data⟩ (by simp) rfl)
          dsimp only at e15
          subst e15
          refine .inl ?_
          unfold Oper.wp
          go_simp
          exact (HI.out _ _ _).2 ⟨_, _, _, _, _, _, _, _, _, _, _, _, _, _, _, _, _, _, _, _, rfl, hT.val 16 (by decide) _ (by
            intro e he hde
            simp only [List.mem_cons, List.not_mem_nil, or_false] at he
            rcases he with rfl | rfl | rfl | rfl | rfl | rfl | rfl | rfl | rfl | rfl | rfl | rfl | rfl | rfl | rfl | rfl | rfl | rfl
            · first | rfl | (rw [also_ne _ (show 0 ≠ 16 by decide)] at hde; exact hT.vals _ (by simp) hde)
            · first | rfl | (rw [also_ne _ (show 1 ≠ 16 by decide)] at hde; exact hT.vals _ (by simp) hde)
            · first | rfl | (rw [also_ne _ (show 2 ≠ 16 by decide)] at hde; exact hT.vals _ (by simp) hde)
            · first | rfl | (rw [also_ne _ (show 3 ≠ 16 by decide)] at hde; exact hT.vals _ (by simp) hde)
            · first | rfl | (rw [also_ne _ (show 4 ≠ 16 by decide)] at hde; exact hT.vals _ (by simp) hde)
            · first | rfl | (rw [also_ne _ (show 5 ≠ 16 by decide)] at hde; exact hT.vals _ (by simp) hde)
            · first | rfl | (rw [also_ne _ (show 6 ≠ 16 by decide)] at hde; exact hT.vals _ (by simp) hde)
            · first | rfl | (rw [also_ne _ (show 7 ≠ 16 by decide)] at hde; exact hT.vals _ (by simp) hde)
            · first | rfl | (rw [also_ne _ (show 8 ≠ 16 by decide)] at hde; exact hT.vals _ (by simp) hde)
            · first | rfl | (rw [also_ne _ (show 9 ≠ 16 by decide)] at hde; exact hT.vals _ (by simp) hde)
            · first | rfl | (rw [also_ne _ (show 10 ≠ 16 by decide)] at hde; exact hT.vals _ (by simp) hde)
            · first | rfl | (rw [also_ne _ (show 11 ≠ 16 by decide)] at hde; exact hT.vals _ (by simp) hde)
            · first | rfl | (rw [also_ne _ (show 12 ≠ 16 by decide)] at hde; exact hT.vals _ (by simp) hde)
            · first | rfl | (rw [also_ne _ (show 13 ≠ 16 by decide)] at hde; exact hT.vals _ (by simp) hde)
            · first | rfl | (rw [also_ne _ (show 14 ≠ 16 by decide)] at hde; exact hT.vals _ (by simp) hde)
            · first | rfl | (rw [also_ne _ (show 15 ≠ 16 by decide)] at hde; exact hT.vals _ (by simp) hde)
            · (dsimp only; rw [HTi.out])
            · first | rfl | (rw [also_ne _ (show 17 ≠ 16 by decide)] at hde; exact hT.vals _ (by simp) hde)
            ) (Below.refl _ _)⟩
        · obtain rfl := Option.some.inj ho
          have e9 := hT.vals _ (List.Mem.tail _ (List.Mem.tail _ (List.Mem.tail _ (List.Mem.tail _ (List.Mem.tail _ (List.Mem.tail _ (List.Mem.tail _ (List.Mem.tail _ (List.Mem.tail _ (List.Mem.head _)))))))))) (hdep ⟨9, .data⟩ (by simp) rfl)
          dsimp only at e9
          subst e9
          have e10 := hT.vals _ (List.Mem.tail _ (List.Mem.tail _ (List.Mem.tail _ (List.Mem.tail _ (List.Mem.tail _ (List.Mem.tail _ (List.Mem.tail _ (List.Mem.tail _ (List.Mem.tail _ (List.Mem.tail _ (List.Mem.head _))))))))))) (hdep ⟨10, .data⟩ (by simp) rfl)
          dsimp only at e10
          subst e10
          have e13 := hT.vals _ (List.Mem.tail _ (List.Mem.tail _ (List.Mem.tail _ (List.Mem.tail _ (List.Mem.tail _ (List.Mem.tail _ (List.Mem.tail _ (List.Mem.tail _ (List.Mem.tail _ (List.Mem.tail _ (List.Mem.tail _ (List.Mem.tail _ (List.Mem.tail _ (List.Mem.head _)))))))))))))) (hdep ⟨13, .data⟩ (by simp) rfl)
          dsimp only at e13
          subst e13
          have e16 := hT.vals _ (List.Mem.tail _ (List.Mem.tail _ (List.Mem.tail _ (List.Mem.tail _ (List.Mem.tail _ (List.Mem.tail _ (List.Mem.tail _ (List.Mem.tail _ (List.Mem.tail _ (List.Mem.tail _ (List.Mem.tail _ (List.Mem.tail _ (List.Mem.tail _ (List.Mem.tail _ (List.Mem.tail _ (List.Mem.tail _ (List.Mem.head _))))))))))))))))) (hdep ⟨16, .data⟩ (by simp) rfl)
          dsimp only at e16
          subst e16
          have HT := Lib.hid hT
          have HB := Lib.hid hT.below
          have hgx := HG2.out.below HB.out
          clear hT hdep
          refine .inl ?_
          unfold Oper.wp
          go_simp
          (with_reducible refine (r4.out _ hgx).mono ?_); rintro e w1 ⟨rfl, hb1⟩
          have hT := HT.out
          exact (HI.out _ _ _).2 ⟨_, _, _, _, _, _, _, _, _, _, _, _, _, _, _, _, _, _, _, _, rfl, hT.val 17 (by decide) _ (by
            intro e he hde
            simp only [List.mem_cons, List.not_mem_nil, or_false] at he
            rcases he with rfl | rfl | rfl | rfl | rfl | rfl | rfl | rfl | rfl | rfl | rfl | rfl | rfl | rfl | rfl | rfl | rfl | rfl
            · first | rfl | (rw [also_ne _ (show 0 ≠ 17 by decide)] at hde; exact hT.vals _ (by simp) hde)
            · first | rfl | (rw [also_ne _ (show 1 ≠ 17 by decide)] at hde; exact hT.vals _ (by simp) hde)
            · first | rfl | (rw [also_ne _ (show 2 ≠ 17 by decide)] at hde; exact hT.vals _ (by simp) hde)
            · first | rfl | (rw [also_ne _ (show 3 ≠ 17 by decide)] at hde; exact hT.vals _ (by simp) hde)
            · first | rfl | (rw [also_ne _ (show 4 ≠ 17 by decide)] at hde; exact hT.vals _ (by simp) hde)
            · first | rfl | (rw [also_ne _ (show 5 ≠ 17 by decide)] at hde; exact hT.vals _ (by simp) hde)
            · first | rfl | (rw [also_ne _ (show 6 ≠ 17 by decide)] at hde; exact hT.vals _ (by simp) hde)
            · first | rfl | (rw [also_ne _ (show 7 ≠ 17 by decide)] at hde; exact hT.vals _ (by simp) hde)
            · first | rfl | (rw [also_ne _ (show 8 ≠ 17 by decide)] at hde; exact hT.vals _ (by simp) hde)
            · first | rfl | (rw [also_ne _ (show 9 ≠ 17 by decide)] at hde; exact hT.vals _ (by simp) hde)
            · first | rfl | (rw [also_ne _ (show 10 ≠ 17 by decide)] at hde; exact hT.vals _ (by simp) hde)
            · first | rfl | (rw [also_ne _ (show 11 ≠ 17 by decide)] at hde; exact hT.vals _ (by simp) hde)
            · first | rfl | (rw [also_ne _ (show 12 ≠ 17 by decide)] at hde; exact hT.vals _ (by simp) hde)
            · first | rfl | (rw [also_ne _ (show 13 ≠ 17 by decide)] at hde; exact hT.vals _ (by simp) hde)
            · first | rfl | (rw [also_ne _ (show 14 ≠ 17 by decide)] at hde; exact hT.vals _ (by simp) hde)
            · first | rfl | (rw [also_ne _ (show 15 ≠ 17 by decide)] at hde; exact hT.vals _ (by simp) hde)
            · first | rfl | (rw [also_ne _ (show 16 ≠ 17 by decide)] at hde; exact hT.vals _ (by simp) hde)
            · rfl
            ) hb1⟩
        · obtain rfl := Option.some.inj ho
          have hT' := (HI.out _ _ _).2 ⟨_, _, _, _, _, _, _, _, _, _, _, _, _, _, _, _, _, _, _, _, rfl, hT.make1 (W := wc1) hd (by decide) rfl⟩
          refine .inl ?_
          unfold Oper.wp
          go_simp
          exact hT'
        · obtain rfl := Option.some.inj ho
          have hT' := (HI.out _ _ _).2 ⟨_, _, _, _, _, _, _, _, _, _, _, _, _, _, _, _, _, _, _, _, rfl, hT.make2 (W := wc1) hd (by decide) rfl⟩
          refine .inl ?_
          unfold Oper.wp
          go_simp
          exact hT'
        · obtain rfl := Option.some.inj ho
          have e8 := hT.vals _ (List.Mem.tail _ (List.Mem.tail _ (List.Mem.tail _ (List.Mem.tail _ (List.Mem.tail _ (List.Mem.tail _ (List.Mem.tail _ (List.Mem.tail _ (List.Mem.head _))))))))) (hdep ⟨8, .data⟩ (by simp) rfl)
          dsimp only at e8
          subst e8
          obtain ⟨p, rfl, ⟨o, ho, hz⟩, hT'⟩ := hT.fill1 (hdep ⟨18, .data⟩ (by simp) rfl) (by decide) rfl
          obtain rfl := hz hd
          refine .inl (wp_store_row 47 (.tmp 15) (.tmp 40) rfl p (bV 4 S) rfl rfl 47 _ ho (by kernel_rfl) (by rfl) (bV_one 4 S) ?_)
          exact (HI.out _ _ _).2 ⟨_, _, _, _, _, _, _, _, _, _, _, _, _, _, _, _, _, _, _, _, rfl, hT'⟩
        · obtain rfl := Option.some.inj ho
          have e17 := hT.vals _ (List.Mem.tail _ (List.Mem.tail _ (List.Mem.tail _ (List.Mem.tail _ (List.Mem.tail _ (List.Mem.tail _ (List.Mem.tail _ (List.Mem.tail _ (List.Mem.tail _ (List.Mem.tail _ (List.Mem.tail _ (List.Mem.tail _ (List.Mem.tail _ (List.Mem.tail _ (List.Mem.tail _ (List.Mem.tail _ (List.Mem.tail _ (List.Mem.head _)))))))))))))))))) (hdep ⟨17, .data⟩ (by simp) rfl)
          dsimp only at e17
          subst e17
          obtain ⟨p, rfl, ⟨o, ho, hz⟩, hT'⟩ := hT.fill2 (hdep ⟨19, .data⟩ (by simp) rfl) (by decide) rfl
          obtain rfl := hz hd
          refine .inl (wp_store_row 47 (.tmp 16) (.tmp 49) rfl p (bV 4 S) rfl rfl 47 _ ho (by kernel_rfl) (by rfl) (bV_one 4 S) ?_)
          exact (HI.out _ _ _).2 ⟨_, _, _, _, _, _, _, _, _, _, _, _, _, _, _, _, _, _, _, _, rfl, hT'⟩
        · cases ho
      · intro dn ac wc hd hIn
        obtain ⟨s15, s16, s32, s33, s34, s35, s36, s37, s38, s39, s40, s41, s42, s43, s44, s45, s46, s47, s48, s49, rfl, hT⟩ := (HI.out _ _ _).1 hIn
        obtain ⟨p2, q2, rfl, rfl, h3, h4, h5⟩ := hT.done ⟨hd 18 (by decide), hd 20 (by decide), hd 19 (by decide), hd 21 (by decide)⟩
        clear HI hIn hT hd r3 r4
        go_wp2_with fail
        go_meet
        exact ⟨p2, q2, rfl, rfl, Lib.hid ⟨h3, h4, h5⟩⟩
    case rest =>
      obtain ⟨p2, q2, rfl, rfl, hfin⟩ := hcut
      clear r3 r4
      have hkc : Hid (wc.heap[b]? = some (.cells (keyV kl) 23 (0, 0))) := (hfin.out.1.block b hbl1.out).trans hk1.out
      have hpc : Hid (wc.heap[p]? = some (.cells (chv C) 50 (0, 0))) := (hfin.out.1.block p (Array.getElem?_eq_some_iff.1 hp1.out.1).1).trans hp1.out.1
      have hqc : Hid (wc.heap[q]? = some (.cells (chv C) 50 (0, 0))) := (hfin.out.1.block q (Array.getElem?_eq_some_iff.1 hp1.out.2).1).trans hp1.out.2
      have hp2 : Hid (wc.heap[p2]? = some (.cells (bV 4 S) 47 (0, 0))) := hfin.out.2.1
      have hq2 : Hid (wc.heap[q2]? = some (.cells (bV 4 S) 47 (0, 0))) := hfin.out.2.2
      have HGC : Hid (Signs wc) := HG2.out.below hfin.out.1
      have HBC : Hid (Below w.heap.size w wc) := HBW1.out.trans (hfin.out.1.mono HBW1.out.size)
      have s50 := Lib.hid (size50 C)
      have s47 := Lib.hid (size47 S)
      have q50 : ∀ w, (Op.equalIn 10000 50 (.agg (chv C)) (.agg (chv C))).run Tryd.prog w = .ok true w := fun w => by rw [eq_chv, decide_eq_true rfl]
      have q47 : ∀ w, (Op.equalIn 10000 47 (.agg (bV 4 S)) (.agg (bV 4 S))).run Tryd.prog w = .ok true w := fun w => by rw [eq_bV, decide_eq_true rfl]
      have n47 : ∀ w, (Op.equalIn 10000 47 (.agg (bV 4 S)) (.agg (bV 4 fun _ => false))).run Tryd.prog w = .ok false w := fun w => by rw [eq_bV, hS.out]
      have hz := zero47
      have k5 := Lib.hid fun d os => (r5.out (grow (redrawn wc d) os) (HGC.out.below (below_regrown wc d os))).regrown_of
      have k6 := Lib.hid fun d os => (r6.out (grow (redrawn wc d) os) (HGC.out.below (below_regrown wc d os))).regrown_of
      have k7 := Lib.hid fun d os => (r7.out (grow (redrawn wc d) os) (HGC.out.below (below_regrown wc d os))).regrown_of
      have k8 := Lib.hid fun d os => (r8.out (grow (redrawn wc d) os) (HGC.out.below (below_regrown wc d os))).regrown_of
      have k9 : Hid (∀ d os, Calls Tryd.prog 33 #[.int .i64 F] (grow (redrawn wc d) os) fun e w' => e = .returned (.int .i64 (FR : Nat)) ∧ ∃ p : Regrown, w' = grow (redrawn wc p.d) p.os) := fun d os => (r9.out _).mono fun e w' ⟨h1, h2⟩ => ⟨h1, ⟨d, os⟩, h2⟩
      have k10 : Hid (∀ d os, Calls Tryd.prog 33 #[.int .i64 (F + 1016 * M)] (grow (redrawn wc d) os) fun e w' => e = .returned (.int .i64 (FR : Nat)) ∧ ∃ p : Regrown, w' = grow (redrawn wc p.d) p.os) := fun d os => (r10.out _).mono fun e w' ⟨h1, h2⟩ => ⟨h1, ⟨d, os⟩, h2⟩
      clear r5 r6 r7 r8 r9 r10 hfin hk1 hbl1 HG2 HBW1 hp1 hS HBt HBi HTt HTi
      go_upto_region 7 with (fail)
      refine wp_region_quiet_below (by kernel_rfl) (by kernel_rfl) ?_
      repeat (first | go_big_quiet_skip | (go_big_quiet_want; refine quiet_load_row 23 (.tmp 5) rfl b rfl 23 (keyV kl) (0, 0) _ hkc.out Tryd.underlying23 rfl hsz.out ?_; simp only [Act.put, List.setIfInBounds_toArray, List.set_cons_succ, List.set_cons_zero]; go_big_quiet_on) | (go_big_quiet_want; refine quiet_load_row 50 (.tmp 13) rfl p rfl 50 (chv C) (0, 0) _ hpc.out Tryd.underlying50 rfl s50.out ?_; simp only [Act.put, List.setIfInBounds_toArray, List.set_cons_succ, List.set_cons_zero]; go_big_quiet_on) | (go_big_quiet_want; refine quiet_load_row 50 (.tmp 14) rfl q rfl 50 (chv C) (0, 0) _ hqc.out Tryd.underlying50 rfl s50.out ?_; simp only [Act.put, List.setIfInBounds_toArray, List.set_cons_succ, List.set_cons_zero]; go_big_quiet_on) | (go_big_quiet_want; refine quiet_load_row 47 (.tmp 15) rfl p2 rfl 47 (bV 4 S) (0, 0) _ hp2.out Tryd.underlying47 rfl s47.out ?_; simp only [Act.put, List.setIfInBounds_toArray, List.set_cons_succ, List.set_cons_zero]; go_big_quiet_on) | (go_big_quiet_want; refine quiet_load_row 47 (.tmp 16) rfl q2 rfl 47 (bV 4 S) (0, 0) _ hq2.out Tryd.underlying47 rfl s47.out ?_; simp only [Act.put, List.setIfInBounds_toArray, List.set_cons_succ, List.set_cons_zero]; go_big_quiet_on) | go_big_quiet_step (first | (with_reducible exact k5.out _ _) | (with_reducible exact k6.out _ _) | (with_reducible exact k7.out _ _) | (with_reducible exact k8.out _ _) | (with_reducible exact k9.out _ _) | (with_reducible exact k10.out _ _)))
      refine wpQuiet_nil ?_
      intro _ hw'
      obtain ⟨⟨dq, osq⟩, hw''⟩ := hw'
      subst hw''
      have hbq : Below w.heap.size w (grow (redrawn wc dq) osq) := HBC.out.trans ((below_regrown wc dq osq).mono HBC.out.size)
      go_wp2
      go_ret
      exact ⟨rfl, hbq⟩
end Go.Proofs.YthmiomncgkmnoaaDoor
