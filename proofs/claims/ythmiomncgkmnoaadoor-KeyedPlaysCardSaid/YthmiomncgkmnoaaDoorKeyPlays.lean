/- The law KeyedPlays: its walk. -/
import Derived.Test.YthmiomncgkmnoaaDoorKeyPo
set_option linter.unusedVariables false
set_option linter.unusedSimpArgs false
namespace Go.Proofs.YthmiomncgkmnoaaDoor
open Go.RowKit Go.Sort Sip Kd
set_option maxRecDepth 100000 in
set_option maxHeartbeats 3200000 in
theorem keyedPlays_walk (kl : List Nat) (sg n F B T : Int) (w : World) (hk : kl.length = 16) (hb : Bytes kl) (hsw : (Lit.int .u8 sg).wf = true) (hn : (Lit.int .i64 n).wf = true) (hFw : (Lit.int .i64 F).wf = true) (hBw : (Lit.int .i64 B).wf = true) (hTw : (Lit.int .i64 T).wf = true) (hg : Signs w) :
    Calls Tryd.prog 14 #[.agg (keyV kl), .int .u8 sg, .int .i64 n, .int .i64 F, .int .i64 B, .int .i64 T] w fun e w' => e = .returned (.bool true) ∧ Below w.heap.size w w' := by
  have h0 : Hid ((w.alloc (.cells (keyV kl) 23)).heap[w.heap.size]? = some (.cells (keyV kl) 23 (0, 0))) := heap_alloc_new w _
  have hw0 : Hid (Below w.heap.size w (w.alloc (.cells (keyV kl) 23))) := (Below.refl _ _).alloc (Nat.le_refl _) _
  have hG : Hid (Signs (w.alloc (.cells (keyV kl) 23))) := hg.below hw0.out
  have hsz := Lib.hid (size23 kl hk)
  obtain ⟨S, rfl, hS1⟩ : ∃ S : Nat, sg = (S : Int) ∧ S < 256 := by
    have h : IntKind.u8.min ≤ sg ∧ sg ≤ IntKind.u8.max := by simpa [Lit.wf] using hsw
    obtain ⟨h1, h2⟩ := h
    change 0 ≤ sg at h1
    change sg ≤ 255 at h2
    exact ⟨sg.toNat, by omega, by omega⟩
  have ra := Lib.hid fun w hg => keyAwake_is w hg
  have r1 := Lib.hid fun w hg => num_is kl hk hb S hS1 n w hg
  have r2 := Lib.hid fun w => refNum_is kl hk hb S hS1 n w
  have r3 := Lib.hid fun w => frame_is F w
  have r4 := Lib.hid fun w => refFrame_is F w
  have o1 := Lib.hid fun m h1 h2 w hg => orders_own kl hk hb S hS1 m h1 h2 w hg
  have o2 := Lib.hid fun m h1 h2 w => orders_ref kl hk hb S hS1 m h1 h2 w
  have r5 := Lib.hid fun w hg => band_is kl hk hb F w hg
  have r6 := Lib.hid fun w => refBand_is kl hk hb F w
  have r7 := Lib.hid fun w hg => chips_is kl hk hb F w hg
  have r8 := Lib.hid fun w => refChips_is kl hk hb F w
  have r9 := Lib.hid fun w hg => place_is kl hk hb F w hg
  have r10 := Lib.hid fun w => refPlace_is kl hk hb F w
  have r11 := Lib.hid fun w hg => subset_is kl hk hb F B T w hg
  have r12 := Lib.hid fun w => refSubset_is kl hk hb F B T w
  generalize num kl S (u64of n) = NU at *
  generalize chip (num kl 99 (fr F)) = C at *
  generalize sub kl F B T = SU at *
  generalize (ord kl (128 + fr F / 8) 8).getD (fr F % 8) 0 = BD at *
  generalize (ord kl 112 127).getD (fr F % 127) 0 = PL at *
  generalize fr F = FR at *
  clear hk hb hsw hn hFw hBw hTw hg
  go_enter Tryd.func14, Tryd.ntmps14
  go_upto_region 1 with (fail)
  generalize w.alloc (.cells (keyV kl) 23) = W at *
  obtain ⟨b, hb0⟩ : ∃ b, b = w.heap.size := ⟨_, rfl⟩
  rw [← hb0] at h0
  rw [← hb0]
  clear hb0
  have hSg : Hid (∀ d os, Signs (grow (redrawn W d) os)) := fun d os => hG.out.below (below_regrown W d os)
  have ka := Lib.hid fun d os => (ra.out (grow (redrawn W d) os) (hSg.out d os)).regrown_of
  have k1 := Lib.hid fun d os => (r1.out (grow (redrawn W d) os) (hSg.out d os)).regrown_of
  have k2 := Lib.hid fun d os => (r2.out (grow (redrawn W d) os)).regrown_of
  have k3 : Hid (∀ d os, Calls Tryd.prog 33 #[.int .i64 F] (grow (redrawn W d) os) fun e w' => e = .returned (.int .i64 (FR : Nat)) ∧ ∃ p : Regrown, w' = grow (redrawn W p.d) p.os) := fun d os => (r3.out _).mono fun e w' ⟨h1, h2⟩ => ⟨h1, ⟨d, os⟩, h2⟩
  have k4 : Hid (∀ d os, Calls Tryd.prog 36 #[.int .i64 F] (grow (redrawn W d) os) fun e w' => e = .returned (.int .i64 (FR : Nat)) ∧ ∃ p : Regrown, w' = grow (redrawn W p.d) p.os) := fun d os => (r4.out _).mono fun e w' ⟨h1, h2⟩ => ⟨h1, ⟨d, os⟩, h2⟩
  refine wp_region_quiet_below (by kernel_rfl) (by kernel_rfl) ?_
  repeat (first | go_big_quiet_skip | (go_big_quiet_want; refine quiet_load_row 23 (.tmp 6) rfl b rfl 23 (keyV kl) (0, 0) _ h0.out Tryd.underlying23 rfl hsz.out ?_; simp only [Act.put, List.setIfInBounds_toArray, List.set_cons_succ, List.set_cons_zero]; go_big_quiet_on) | go_big_quiet_step (first | (with_reducible exact ka.out _ _) | (with_reducible exact k1.out _ _) | (with_reducible exact k2.out _ _) | (with_reducible exact k3.out _ _) | (with_reducible exact k4.out _ _)))
  refine wpQuiet_nil ?_
  intro _ hw'
  obtain ⟨⟨dq, osq⟩, hw''⟩ := hw'
  subst hw''
  have hbq : Hid (Below W.heap.size W (grow (redrawn W dq) osq)) := below_regrown W dq osq
  generalize grow (redrawn W dq) osq = w1 at *
  have h1 : Hid (w1.heap[b]? = some (.cells (keyV kl) 23 (0, 0))) := (hbq.out.block b (Array.getElem?_eq_some_iff.1 h0.out).1).trans h0.out
  have HBW : Hid (Below w.heap.size w w1) := hw0.out.trans (hbq.out.mono hw0.out.size)
  have HG1 : Hid (Signs w1) := hG.out.below hbq.out
  have hbl : Hid (b < w1.heap.size) := (Array.getElem?_eq_some_iff.1 h1.out).1
  clear h0 hw0 hG hbq hSg ka k1 k2 k3 k4 ra r1 r2 r3 r4
  by_cases g1 : 1 ≤ n
  · by_cases g2 : n ≤ 256
    · obtain ⟨N, rfl⟩ : ∃ N : Nat, n = (N : Int) := ⟨n.toNat, by omega⟩
      have o1 := Lib.hid (o1.out N (by omega) (by omega))
      have o2 := Lib.hid (o2.out N (by omega) (by omega))
      have hl := ord_length kl S N
      generalize ord kl S N = L at *
      have HL := Lib.hid hl
      clear hl
      go_upto_region 4 with (fail)
      go_cut [13, 14] (fun s13 s14 wx => ∃ g1 c1 g2 c2 : Nat, s13 = .slice (some ⟨g1, 0, none⟩) N c1 ∧ s14 = .slice (some ⟨g2, 0, none⟩) N c2 ∧ Hid (Below w1.heap.size w1 wx ∧ OrdAt L wx s13 ∧ OrdAt L wx s14))
      case first =>
        obtain ⟨I, hI⟩ : ∃ I : (Nat → Bool) → Act → World → Prop, ∀ dn ac wc, I dn ac wc ↔ ∃ s13 s14 s42 s43 s44 s45 s46 s47 s48 s49, ac = ⟨#[.agg (keyV kl), .int .u8 (S : Nat), .int .i64 (N : Nat), .int .i64 (F), .int .i64 (B), .int .i64 (T), .pointer (some ⟨b, 0, none⟩), undef, undef, undef, undef, undef, .bool false, s13, s14, undef, .bool true, .bool false, .bool false, .agg (keyV kl), .int .u8 (S : Nat), .int .i64 (N : Nat), .int .u64 (NU : Nat), .agg (keyV kl), .int .u8 (S : Nat), .int .i64 (N : Nat), .int .u64 (NU : Nat), .bool false, .bool false, .bool false, .int .i64 (F), .int .i64 (FR : Nat), .int .i64 (F), .int .i64 (FR : Nat), .bool false, .bool false, .int .i64 (N : Nat), .bool true, .bool true, .int .i64 (N : Nat), .bool true, .bool true, s42, s43, s44, s45, s46, s47, s48, s49, undef, undef, undef, undef, undef, undef, undef, undef, undef, undef, undef, undef, undef, undef, undef, undef, undef, undef, undef, undef, undef, undef, undef, undef, undef, undef, undef, undef, undef, undef, undef, undef, undef, undef, undef, undef, undef, undef, undef, undef, undef, undef, undef, undef, undef, undef, undef, undef, undef, undef, undef, undef, undef, undef, undef, undef, undef, undef], []⟩ ∧
          Po w1 wc dn [(0, .agg (keyV kl), s42), (1, .int .u8 (S : Nat), s43), (2, .int .i64 (N : Nat), s44), (4, .agg (keyV kl), s46), (5, .int .u8 (S : Nat), s47), (6, .int .i64 (N : Nat), s48)] (OrdAt L) 3 7 8 9 s45 s49 s13 s14 := ⟨_, fun _ _ _ => Iff.rfl⟩
        have HI := Lib.hid hI
        clear hI
        refine wp_region_inv (by kernel_rfl) (by kernel_rfl) I ?_ ?_ ?_
        · exact (HI.out _ _ _).2 ⟨_, _, _, _, _, _, _, _, _, _, rfl, Po.start ..⟩
        · intro i o dn ac wc ho hd hdep hIn
          obtain ⟨s13, s14, s42, s43, s44, s45, s46, s47, s48, s49, rfl, hT⟩ := (HI.out _ _ _).1 hIn
          clear hIn
          rcases i with _ | _ | _ | _ | _ | _ | _ | _ | _ | _ | i
          · obtain rfl := Option.some.inj ho
            refine .inl (wp_load_row 23 (.tmp 6) rfl b rfl 23 _ (0, 0) _ ((hT.below.block b hbl.out).trans h1.out) Tryd.underlying23 rfl hsz.out ?_)
            exact (HI.out _ _ _).2 ⟨_, _, _, _, _, _, _, _, _, _, rfl, hT.val 0 (by decide) _ (by
              intro e he hde
              simp only [List.mem_cons, List.not_mem_nil, or_false] at he
              rcases he with rfl | rfl | rfl | rfl | rfl | rfl
              · rfl
              · first | rfl | (rw [also_ne _ (show 1 ≠ 0 by decide)] at hde; exact hT.vals _ (by simp) hde)
              · first | rfl | (rw [also_ne _ (show 2 ≠ 0 by decide)] at hde; exact hT.vals _ (by simp) hde)
              · first | rfl | (rw [also_ne _ (show 4 ≠ 0 by decide)] at hde; exact hT.vals _ (by simp) hde)
              · first | rfl | (rw [also_ne _ (show 5 ≠ 0 by decide)] at hde; exact hT.vals _ (by simp) hde)
              · first | rfl | (rw [also_ne _ (show 6 ≠ 0 by decide)] at hde; exact hT.vals _ (by simp) hde)
              )⟩
          · obtain rfl := Option.some.inj ho
            refine .inl ?_
            unfold Oper.wp
            go_simp
            exact (HI.out _ _ _).2 ⟨_, _, _, _, _, _, _, _, _, _, rfl, hT.val 1 (by decide) _ (by
              intro e he hde
              simp only [List.mem_cons, List.not_mem_nil, or_false] at he
              rcases he with rfl | rfl | rfl | rfl | rfl | rfl
              · first | rfl | (rw [also_ne _ (show 0 ≠ 1 by decide)] at hde; exact hT.vals _ (by simp) hde)
              · rfl
              · first | rfl | (rw [also_ne _ (show 2 ≠ 1 by decide)] at hde; exact hT.vals _ (by simp) hde)
              · first | rfl | (rw [also_ne _ (show 4 ≠ 1 by decide)] at hde; exact hT.vals _ (by simp) hde)
              · first | rfl | (rw [also_ne _ (show 5 ≠ 1 by decide)] at hde; exact hT.vals _ (by simp) hde)
              · first | rfl | (rw [also_ne _ (show 6 ≠ 1 by decide)] at hde; exact hT.vals _ (by simp) hde)
              )⟩
          · obtain rfl := Option.some.inj ho
            refine .inl ?_
            unfold Oper.wp
            go_simp
            exact (HI.out _ _ _).2 ⟨_, _, _, _, _, _, _, _, _, _, rfl, hT.val 2 (by decide) _ (by
              intro e he hde
              simp only [List.mem_cons, List.not_mem_nil, or_false] at he
              rcases he with rfl | rfl | rfl | rfl | rfl | rfl
              · first | rfl | (rw [also_ne _ (show 0 ≠ 2 by decide)] at hde; exact hT.vals _ (by simp) hde)
              · first | rfl | (rw [also_ne _ (show 1 ≠ 2 by decide)] at hde; exact hT.vals _ (by simp) hde)
              · rfl
              · first | rfl | (rw [also_ne _ (show 4 ≠ 2 by decide)] at hde; exact hT.vals _ (by simp) hde)
              · first | rfl | (rw [also_ne _ (show 5 ≠ 2 by decide)] at hde; exact hT.vals _ (by simp) hde)
              · first | rfl | (rw [also_ne _ (show 6 ≠ 2 by decide)] at hde; exact hT.vals _ (by simp) hde)
              )⟩
          · obtain rfl := Option.some.inj ho
            have e0 := hT.vals _ (List.Mem.head _) (hdep ⟨0, .data⟩ (by simp) rfl)
            dsimp only at e0
            subst e0
            have e1 := hT.vals _ (List.Mem.tail _ (List.Mem.head _)) (hdep ⟨1, .data⟩ (by simp) rfl)
            dsimp only at e1
            subst e1
            have e2 := hT.vals _ (List.Mem.tail _ (List.Mem.tail _ (List.Mem.head _))) (hdep ⟨2, .data⟩ (by simp) rfl)
            dsimp only at e2
            subst e2
            have HT := Lib.hid hT
            have HB := Lib.hid hT.below
            have hgx := HG1.out.below HB.out
            clear hT hdep
            refine .inl ?_
            unfold Oper.wp
            go_simp
            (with_reducible refine (o1.out _ hgx).mono ?_); rintro e wz ⟨v, rfl, hqv, hb1⟩
            exact (HI.out _ _ _).2 ⟨_, _, _, _, _, _, _, _, _, _, rfl, HT.out.call3 (OrdAt.below L) hd (by decide) rfl hb1 hqv⟩
          · obtain rfl := Option.some.inj ho
            refine .inl (wp_load_row 23 (.tmp 6) rfl b rfl 23 _ (0, 0) _ ((hT.below.block b hbl.out).trans h1.out) Tryd.underlying23 rfl hsz.out ?_)
            exact (HI.out _ _ _).2 ⟨_, _, _, _, _, _, _, _, _, _, rfl, hT.val 4 (by decide) _ (by
              intro e he hde
              simp only [List.mem_cons, List.not_mem_nil, or_false] at he
              rcases he with rfl | rfl | rfl | rfl | rfl | rfl
              · first | rfl | (rw [also_ne _ (show 0 ≠ 4 by decide)] at hde; exact hT.vals _ (by simp) hde)
              · first | rfl | (rw [also_ne _ (show 1 ≠ 4 by decide)] at hde; exact hT.vals _ (by simp) hde)
              · first | rfl | (rw [also_ne _ (show 2 ≠ 4 by decide)] at hde; exact hT.vals _ (by simp) hde)
              · rfl
              · first | rfl | (rw [also_ne _ (show 5 ≠ 4 by decide)] at hde; exact hT.vals _ (by simp) hde)
              · first | rfl | (rw [also_ne _ (show 6 ≠ 4 by decide)] at hde; exact hT.vals _ (by simp) hde)
              )⟩
          · obtain rfl := Option.some.inj ho
            refine .inl ?_
            unfold Oper.wp
            go_simp
            exact (HI.out _ _ _).2 ⟨_, _, _, _, _, _, _, _, _, _, rfl, hT.val 5 (by decide) _ (by
              intro e he hde
              simp only [List.mem_cons, List.not_mem_nil, or_false] at he
              rcases he with rfl | rfl | rfl | rfl | rfl | rfl
              · first | rfl | (rw [also_ne _ (show 0 ≠ 5 by decide)] at hde; exact hT.vals _ (by simp) hde)
              · first | rfl | (rw [also_ne _ (show 1 ≠ 5 by decide)] at hde; exact hT.vals _ (by simp) hde)
              · first | rfl | (rw [also_ne _ (show 2 ≠ 5 by decide)] at hde; exact hT.vals _ (by simp) hde)
              · first | rfl | (rw [also_ne _ (show 4 ≠ 5 by decide)] at hde; exact hT.vals _ (by simp) hde)
              · rfl
              · first | rfl | (rw [also_ne _ (show 6 ≠ 5 by decide)] at hde; exact hT.vals _ (by simp) hde)
              )⟩
          · obtain rfl := Option.some.inj ho
            refine .inl ?_
            unfold Oper.wp
            go_simp
            exact (HI.out _ _ _).2 ⟨_, _, _, _, _, _, _, _, _, _, rfl, hT.val 6 (by decide) _ (by
              intro e he hde
              simp only [List.mem_cons, List.not_mem_nil, or_false] at he
              rcases he with rfl | rfl | rfl | rfl | rfl | rfl
              · first | rfl | (rw [also_ne _ (show 0 ≠ 6 by decide)] at hde; exact hT.vals _ (by simp) hde)
              · first | rfl | (rw [also_ne _ (show 1 ≠ 6 by decide)] at hde; exact hT.vals _ (by simp) hde)
              · first | rfl | (rw [also_ne _ (show 2 ≠ 6 by decide)] at hde; exact hT.vals _ (by simp) hde)
              · first | rfl | (rw [also_ne _ (show 4 ≠ 6 by decide)] at hde; exact hT.vals _ (by simp) hde)
              · first | rfl | (rw [also_ne _ (show 5 ≠ 6 by decide)] at hde; exact hT.vals _ (by simp) hde)
              · rfl
              )⟩
          · obtain rfl := Option.some.inj ho
            have e4 := hT.vals _ (List.Mem.tail _ (List.Mem.tail _ (List.Mem.tail _ (List.Mem.head _)))) (hdep ⟨4, .data⟩ (by simp) rfl)
            dsimp only at e4
            subst e4
            have e5 := hT.vals _ (List.Mem.tail _ (List.Mem.tail _ (List.Mem.tail _ (List.Mem.tail _ (List.Mem.head _))))) (hdep ⟨5, .data⟩ (by simp) rfl)
            dsimp only at e5
            subst e5
            have e6 := hT.vals _ (List.Mem.tail _ (List.Mem.tail _ (List.Mem.tail _ (List.Mem.tail _ (List.Mem.tail _ (List.Mem.head _)))))) (hdep ⟨6, .data⟩ (by simp) rfl)
            dsimp only at e6
            subst e6
            have HT := Lib.hid hT
            have HB := Lib.hid hT.below
            clear hT hdep
            refine .inl ?_
            unfold Oper.wp
            go_simp
            (with_reducible refine (o2.out _).mono ?_); rintro e wz ⟨v, rfl, hqv, hb1⟩
            exact (HI.out _ _ _).2 ⟨_, _, _, _, _, _, _, _, _, _, rfl, HT.out.call7 (OrdAt.below L) hd (by decide) rfl hb1 hqv⟩
          · obtain rfl := Option.some.inj ho
            have hT' := (HI.out _ _ _).2 ⟨_, _, _, _, _, _, _, _, _, _, rfl, hT.set8 (hdep ⟨3, .data⟩ (by simp) rfl) (by decide) rfl⟩
            refine .inl ?_
            unfold Oper.wp
            go_simp
            exact hT'
          · obtain rfl := Option.some.inj ho
            have hT' := (HI.out _ _ _).2 ⟨_, _, _, _, _, _, _, _, _, _, rfl, hT.set9 (hdep ⟨7, .data⟩ (by simp) rfl) (by decide) rfl⟩
            refine .inl ?_
            unfold Oper.wp
            go_simp
            exact hT'
          · cases ho
        · intro dn ac wc hd hIn
          obtain ⟨s13, s14, s42, s43, s44, s45, s46, s47, s48, s49, rfl, hT⟩ := (HI.out _ _ _).1 hIn
          have h3 := hT.below
          obtain ⟨rfl, i3⟩ := hT.a8 (hd 8 (by decide))
          obtain ⟨rfl, i7⟩ := hT.a9 (hd 9 (by decide))
          have c3 := hT.c3 i3
          have c7 := hT.c7 i7
          have c3' := c3
          have c7' := c7
          obtain ⟨g1, c1, rfl, _, _⟩ := c3
          obtain ⟨g2, c2, rfl, _, _⟩ := c7
          rw [HL.out] at c3' c7'
          rw [HL.out]
          have HF := Lib.hid (And.intro h3 (And.intro c3' c7'))
          clear HI hIn hT hd o1 o2 c3' c7' h3
          go_wp2_with fail
          go_meet
          exact ⟨g1, c1, g2, c2, rfl, rfl, HF⟩
      case rest =>
        obtain ⟨p1, c1, p2, c2, rfl, rfl, hfin⟩ := hcut
        clear o1 o2
        have hfin : Hid (Below w1.heap.size w1 wc ∧ (∀ i, i < N → wc.cell? ⟨p1, i, none⟩ = some (.int .i64 (L.getD i 0 : Nat))) ∧ (∀ i, i < N → wc.cell? ⟨p2, i, none⟩ = some (.int .i64 (L.getD i 0 : Nat))) ∧ p1 < wc.heap.size ∧ p2 < wc.heap.size) := by
          obtain ⟨h3, ⟨x1, y1, e1, l1, f1⟩, ⟨x2, y2, e2, l2, f2⟩⟩ := hfin.out
          injection e1 with e1 _ _; injection e1 with e1; injection e1 with e1
          injection e2 with e2 _ _; injection e2 with e2; injection e2 with e2
          subst e1 e2
          rw [HL.out] at f1 f2
          exact ⟨h3, f1, f2, l1, l2⟩
        obtain ⟨wa, hwa⟩ : ∃ wa, wa = wc := ⟨_, rfl⟩
        have hfa : Hid (Below w1.heap.size w1 wa ∧ (∀ i, i < N → wa.cell? ⟨p1, i, none⟩ = some (.int .i64 (L.getD i 0 : Nat))) ∧ (∀ i, i < N → wa.cell? ⟨p2, i, none⟩ = some (.int .i64 (L.getD i 0 : Nat))) ∧ p1 < wa.heap.size ∧ p2 < wa.heap.size) := by rw [hwa]; exact hfin
        rw [← hwa]
        clear hwa hfin
        have hka : Hid (wa.heap[b]? = some (.cells (keyV kl) 23 (0, 0))) := (hfa.out.1.block b hbl.out).trans h1.out
        have HGA : Hid (Signs wa) := HG1.out.below hfa.out.1
        have HBA : Hid (Below w.heap.size w wa) := HBW.out.trans (hfa.out.1.mono HBW.out.size)
        have hfa := Lib.hid hfa.out.2
        clear HBW HG1 hbl h1
        have hrel0 : Hid (Below wa.heap.size wa wa) := Below.refl _ _
        go_wp2
        go_loopw [15] (fun i wr => ∃ k : Nat, k ≤ N ∧ i = .int .i64 k ∧ Hid (Below wa.heap.size wa wr)) (fun i _ => N - (intOf i).toNat)
        case atStart => exact ⟨0, by omega, rfl, hrel0⟩
        case round =>
          clear hrel0
          obtain ⟨k, hk, rfl, hA⟩ := hrel
          obtain ⟨wo, rfl⟩ : ∃ wo : World, wo = wr := ⟨_, rfl⟩
          by_cases hlt : k < N
          · have l1 : wo.cell? ⟨p1, k, none⟩ = some (.int .i64 (L.getD k 0 : Nat)) := (hA.out.cell (p := ⟨p1, k, none⟩) hfa.out.2.2.1).trans (hfa.out.1 k hlt)
            have l2 : wo.cell? ⟨p2, k, none⟩ = some (.int .i64 (L.getD k 0 : Nat)) := (hA.out.cell (p := ⟨p2, k, none⟩) hfa.out.2.2.2).trans (hfa.out.2.1 k hlt)
            generalize L.getD k 0 = X at *
            have hkN : (k : Int) < (N : Int) := by omega
            have m1 : ∀ d os, (grow (redrawn wo d) os).cell? ⟨p1, k, none⟩ = some (.int .i64 (X : Nat)) := fun d os => cell_regrown l1 d os
            have m2 : ∀ d os, (grow (redrawn wo d) os).cell? ⟨p2, k, none⟩ = some (.int .i64 (X : Nat)) := fun d os => cell_regrown l2 d os
            clear l1 l2
            go_upto_region 8 with (fail)
            refine wp_region_quiet_below (by kernel_rfl) (by kernel_rfl) ?_
            repeat (first | go_big_quiet_skip | go_big_quiet_step (fail))
            refine wpQuiet_nil ?_
            intro _ hw'
            obtain ⟨⟨dq, osq⟩, hw''⟩ := hw'
            subst hw''
            have hN : Hid (Below wa.heap.size wa (grow (redrawn wo dq) osq)) := hA.out.trans ((below_regrown wo dq osq).mono hA.out.size)
            go_wp2
            go_roundw
            case rel => exact ⟨k + 1, by omega, by go_num, hN⟩
            case measure => simp [intOf]; omega
          · obtain rfl : k = N := by omega
            have hkb : Hid (wo.heap[b]? = some (.cells (keyV kl) 23 (0, 0))) := (hA.out.block b (Array.getElem?_eq_some_iff.1 hka.out).1).trans hka.out
            have HGB : Hid (Signs wo) := HGA.out.below hA.out
            have HBB : Hid (Below w.heap.size w wo) := HBA.out.trans (hA.out.mono HBA.out.size)
            clear hka HGA HBA hA hfa
            have hSg : Hid (∀ d os, Signs (grow (redrawn wo d) os)) := fun d os => HGB.out.below (below_regrown wo d os)
            have k5 := Lib.hid fun d os => (r5.out (grow (redrawn wo d) os) (hSg.out d os)).regrown_of
            have k6 := Lib.hid fun d os => (r6.out (grow (redrawn wo d) os)).regrown_of
            have k7 := Lib.hid fun d os => (r7.out (grow (redrawn wo d) os) (hSg.out d os)).regrown_of
            have k8 := Lib.hid fun d os => (r8.out (grow (redrawn wo d) os)).regrown_of
            have k9 := Lib.hid fun d os => (r9.out (grow (redrawn wo d) os) (hSg.out d os)).regrown_of
            have k10 := Lib.hid fun d os => (r10.out (grow (redrawn wo d) os)).regrown_of
            have k11 := Lib.hid fun d os => (r11.out (grow (redrawn wo d) os) (hSg.out d os)).regrown_of
            have k12 := Lib.hid fun d os => (r12.out (grow (redrawn wo d) os)).regrown_of
            have q50 : ∀ w, (Op.equalIn 10000 50 (.agg (chv C)) (.agg (chv C))).run Tryd.prog w = .ok true w := fun w => by rw [eq_chv, decide_eq_true rfl]
            have q47 : ∀ w, (Op.equalIn 10000 47 (.agg (bV 4 SU)) (.agg (bV 4 SU))).run Tryd.prog w = .ok true w := fun w => by rw [eq_bV, decide_eq_true rfl]
            go_upto_region 10 with (fail)
            refine wp_region_quiet_below (by kernel_rfl) (by kernel_rfl) ?_
            repeat (first | go_big_quiet_skip | (go_big_quiet_want; refine quiet_load_row 23 (.tmp 6) rfl b rfl 23 (keyV kl) (0, 0) _ hkb.out Tryd.underlying23 rfl hsz.out ?_; simp only [Act.put, List.setIfInBounds_toArray, List.set_cons_succ, List.set_cons_zero]; go_big_quiet_on) | go_big_quiet_step (first | (with_reducible exact k5.out _ _) | (with_reducible exact k6.out _ _) | (with_reducible exact k7.out _ _) | (with_reducible exact k8.out _ _) | (with_reducible exact k9.out _ _) | (with_reducible exact k10.out _ _) | (with_reducible exact k11.out _ _) | (with_reducible exact k12.out _ _)))
            refine wpQuiet_nil ?_
            intro _ hw'
            obtain ⟨⟨dq, osq⟩, hw''⟩ := hw'
            subst hw''
            have hbq : Below w.heap.size w (grow (redrawn wo dq) osq) := HBB.out.trans ((below_regrown wo dq osq).mono HBB.out.size)
            go_wp2
            go_ret
            exact ⟨rfl, hbq⟩
    · have g3 : decide (n ≤ 256) = false := decide_eq_false g2
      have g4 : decide (1 ≤ n) = true := decide_eq_true g1
      clear o1 o2
      have hSg : Hid (∀ d os, Signs (grow (redrawn w1 d) os)) := fun d os => HG1.out.below (below_regrown w1 d os)
      have k5 := Lib.hid fun d os => (r5.out (grow (redrawn w1 d) os) (hSg.out d os)).regrown_of
      have k6 := Lib.hid fun d os => (r6.out (grow (redrawn w1 d) os)).regrown_of
      have k7 := Lib.hid fun d os => (r7.out (grow (redrawn w1 d) os) (hSg.out d os)).regrown_of
      have k8 := Lib.hid fun d os => (r8.out (grow (redrawn w1 d) os)).regrown_of
      have k9 := Lib.hid fun d os => (r9.out (grow (redrawn w1 d) os) (hSg.out d os)).regrown_of
      have k10 := Lib.hid fun d os => (r10.out (grow (redrawn w1 d) os)).regrown_of
      have k11 := Lib.hid fun d os => (r11.out (grow (redrawn w1 d) os) (hSg.out d os)).regrown_of
      have k12 := Lib.hid fun d os => (r12.out (grow (redrawn w1 d) os)).regrown_of
      have q50 : ∀ w, (Op.equalIn 10000 50 (.agg (chv C)) (.agg (chv C))).run Tryd.prog w = .ok true w := fun w => by rw [eq_chv, decide_eq_true rfl]
      have q47 : ∀ w, (Op.equalIn 10000 47 (.agg (bV 4 SU)) (.agg (bV 4 SU))).run Tryd.prog w = .ok true w := fun w => by rw [eq_bV, decide_eq_true rfl]
      go_upto_region 10 with (fail)
      refine wp_region_quiet_below (by kernel_rfl) (by kernel_rfl) ?_
      repeat (first | go_big_quiet_skip | (go_big_quiet_want; refine quiet_load_row 23 (.tmp 6) rfl b rfl 23 (keyV kl) (0, 0) _ h1.out Tryd.underlying23 rfl hsz.out ?_; simp only [Act.put, List.setIfInBounds_toArray, List.set_cons_succ, List.set_cons_zero]; go_big_quiet_on) | go_big_quiet_step (first | (with_reducible exact k5.out _ _) | (with_reducible exact k6.out _ _) | (with_reducible exact k7.out _ _) | (with_reducible exact k8.out _ _) | (with_reducible exact k9.out _ _) | (with_reducible exact k10.out _ _) | (with_reducible exact k11.out _ _) | (with_reducible exact k12.out _ _)))
      refine wpQuiet_nil ?_
      intro _ hw'
      obtain ⟨⟨dq, osq⟩, hw''⟩ := hw'
      subst hw''
      have hbq : Below w.heap.size w (grow (redrawn w1 dq) osq) := HBW.out.trans ((below_regrown w1 dq osq).mono HBW.out.size)
      go_wp2
      go_ret
      exact ⟨rfl, hbq⟩
  · have g3 : decide (1 ≤ n) = false := decide_eq_false g1
    clear o1 o2
    have hSg : Hid (∀ d os, Signs (grow (redrawn w1 d) os)) := fun d os => HG1.out.below (below_regrown w1 d os)
    have k5 := Lib.hid fun d os => (r5.out (grow (redrawn w1 d) os) (hSg.out d os)).regrown_of
    have k6 := Lib.hid fun d os => (r6.out (grow (redrawn w1 d) os)).regrown_of
    have k7 := Lib.hid fun d os => (r7.out (grow (redrawn w1 d) os) (hSg.out d os)).regrown_of
    have k8 := Lib.hid fun d os => (r8.out (grow (redrawn w1 d) os)).regrown_of
    have k9 := Lib.hid fun d os => (r9.out (grow (redrawn w1 d) os) (hSg.out d os)).regrown_of
    have k10 := Lib.hid fun d os => (r10.out (grow (redrawn w1 d) os)).regrown_of
    have k11 := Lib.hid fun d os => (r11.out (grow (redrawn w1 d) os) (hSg.out d os)).regrown_of
    have k12 := Lib.hid fun d os => (r12.out (grow (redrawn w1 d) os)).regrown_of
    have q50 : ∀ w, (Op.equalIn 10000 50 (.agg (chv C)) (.agg (chv C))).run Tryd.prog w = .ok true w := fun w => by rw [eq_chv, decide_eq_true rfl]
    have q47 : ∀ w, (Op.equalIn 10000 47 (.agg (bV 4 SU)) (.agg (bV 4 SU))).run Tryd.prog w = .ok true w := fun w => by rw [eq_bV, decide_eq_true rfl]
    go_upto_region 10 with (fail)
    refine wp_region_quiet_below (by kernel_rfl) (by kernel_rfl) ?_
    repeat (first | go_big_quiet_skip | (go_big_quiet_want; refine quiet_load_row 23 (.tmp 6) rfl b rfl 23 (keyV kl) (0, 0) _ h1.out Tryd.underlying23 rfl hsz.out ?_; simp only [Act.put, List.setIfInBounds_toArray, List.set_cons_succ, List.set_cons_zero]; go_big_quiet_on) | go_big_quiet_step (first | (with_reducible exact k5.out _ _) | (with_reducible exact k6.out _ _) | (with_reducible exact k7.out _ _) | (with_reducible exact k8.out _ _) | (with_reducible exact k9.out _ _) | (with_reducible exact k10.out _ _) | (with_reducible exact k11.out _ _) | (with_reducible exact k12.out _ _)))
    refine wpQuiet_nil ?_
    intro _ hw'
    obtain ⟨⟨dq, osq⟩, hw''⟩ := hw'
    subst hw''
    have hbq : Below w.heap.size w (grow (redrawn w1 dq) osq) := HBW.out.trans ((below_regrown w1 dq osq).mono HBW.out.size)
    go_wp2
    go_ret
    exact ⟨rfl, hbq⟩
end Go.Proofs.YthmiomncgkmnoaaDoor
