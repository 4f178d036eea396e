/- The deed that puts another packet behind one: its walk. -/
import Derived.Test.YthoemgiadadfcaaDoorRdIns
import Derived.Test.YthoemgiadadfcaaDoorRdSwap
import Derived.Test.YthoemgiadadfcaaDoorRegC
set_option linter.unusedVariables false
set_option linter.unusedSimpArgs false
namespace Go.Proofs.YthoemgiadadfcaaDoor
open Go.RowKit Go.Sort Rd
namespace Rd
def twiceL (x : Ac) (xs : List It) : List It := if inn x.a xs.length ∧ xs.length < 8192 then insL xs (x.a.toNat + 1) (xs.getD x.a.toNat (ByteArray.empty, 0)) else xs
end Rd
set_option maxRecDepth 100000 in
set_option maxHeartbeats 3200000 in
theorem twice_is (p : Nat) (v : Value) (xs : List It) (x : Ac) (w : World) (h : Lb w p v xs) (hn : xs.length ≤ 100000) :
    Calls Tryd.prog 31 #[.pointer (some ⟨p, 0, none⟩), n3 x] w fun e w' => e = .returned (.tuple #[]) ∧ Dd w w' p v (twiceL x xs) := by
  obtain ⟨xw, xa, xb, xc⟩ := x
  obtain ⟨a, cap, hv⟩ := h.own.shape
  have hb1 : Below w.heap.size w (w.alloc (.cells #[.int .i64 xa, .int .i64 xb, .int .i64 xc] 27)) := (Below.refl _ _).alloc (Nat.le_refl _) _
  have hn1 : (w.alloc (.cells #[.int .i64 xa, .int .i64 xb, .int .i64 xc] 27)).heap[w.heap.size]? = some (.cells #[.int .i64 xa, .int .i64 xb, .int .i64 xc] 27 (0, 0)) := heap_alloc_new w _
  have l0 : (w.alloc (.cells #[.int .i64 xa, .int .i64 xb, .int .i64 xc] 27)).cell? ⟨w.heap.size, 0, none⟩ = some (.int .i64 xa) := cell_of_row _ _ 0 _ 27 (0, 0) hn1
  have l9 := (h.below hb1).cell
  rw [hv] at l9
  have hq1 := has_is p a xs.length cap xa _ l9
  have H := Lib.hid h
  show Calls Tryd.prog 31 #[.pointer (some ⟨p, 0, none⟩), .agg #[.int .i64 xa, .int .i64 xb, .int .i64 xc]] w _
  by_cases hi : inn xa xs.length
  · rw [decide_eq_true (show 0 ≤ xa ∧ xa < (xs.length : Int) from hi)] at hq1
    by_cases h8 : xs.length < 8192
    · obtain ⟨i, rfl⟩ : ∃ i : Nat, xa = i := ⟨xa.toNat, by unfold inn at hi; omega⟩
      have hil : i < xs.length := by unfold inn at hi; omega
      obtain ⟨⟨x1, x2⟩, hxi⟩ : ∃ it, xs[i]? = some it := ⟨xs[i], List.getElem?_eq_getElem hil⟩
      have HS : Hid (twiceL ⟨xw, i, xb, xc⟩ xs = insL xs (i + 1) (x1, x2)) := by
        show _ = _; unfold twiceL; rw [if_pos ⟨hi, h8⟩]
        simp only [Int.toNat_natCast, List.getD_eq_getElem?_getD, hxi, Option.getD_some]
      obtain ⟨g, cap', hv2, hcap⟩ := h.own.form (by omega)
      rw [hv] at hv2
      obtain ⟨rfl, rfl⟩ : a = some ⟨g, 0, none⟩ ∧ cap' = cap := by injection hv2 with e1 e2 e3; exact ⟨e1, e3.symm⟩
      subst hv
      have ew : IntKind.i64.wrap ((i : Int) + 1) = (i : Int) + 1 := by rw [IntKind.wrap_i64]; omega
      have hd8 : (xs.length : Int) < 8192 := by omega
      clear h hv2
      go_enter Tryd.func31, Tryd.ntmps31
      go_upto_region 2 with (go_at_call 41; (with_reducible refine hq1.mono ?_); rintro e w1 ⟨rfl, h9⟩; subst h9; clear hq1)
      obtain ⟨W1, hW1⟩ : ∃ W1, W1 = w.alloc (.cells #[.int .i64 (i : Nat), .int .i64 xb, .int .i64 xc] 27) := ⟨_, rfl⟩
      rw [← hW1] at hb1 hn1 l0 l9 ⊢
      have hpl : p < W1.heap.size := Nat.lt_of_lt_of_le H.out.lt hb1.size
      have hnl : w.heap.size < W1.heap.size := (Array.getElem?_eq_some_iff.1 hn1).1
      have c0 := l0
      have c9 := l9
      have hL1 := H.out.below hb1
      have hgl : g < W1.heap.size := Nat.lt_of_lt_of_le (H.out.own.lt g (by simp [foot_slice])) hb1.size
      have cx1 : W1.cell? ⟨g, i * 2, none⟩ = some (.string x1) := hL1.own.cell lc_length i _ hxi 0 (.string x1) rfl
      have cx2 : W1.cell? ⟨g, i * 2 + 1, none⟩ = some (.int .i64 x2) := hL1.own.cell lc_length i _ hxi 1 (.int .i64 x2) rfl
      have hpg : p ≠ g := fun e => H.out.out (by simp [foot_slice, e])
      obtain ⟨T1, hT1⟩ : ∃ T1 : Value → World → Prop, T1 = fun v1 w' => Rw w' 59 2 lc v1 (insL xs (i + 1) (x1, x2)) ∧ Keep W1 w' [g] ∧ ∀ j ∈ foot v1, j = g ∨ W1.heap.size ≤ j := ⟨_, rfl⟩
      obtain ⟨T2, hT2⟩ : ∃ T2 : World → Prop, T2 = fun w' => ∃ v1, Lb w' p v1 (insL xs (i + 1) (x1, x2)) ∧ Keep W1 w' [p, g] ∧ ∀ j ∈ foot v1, j = g ∨ W1.heap.size ≤ j := ⟨_, rfl⟩
      have H0 : Hid (∀ w', Below W1.heap.size W1 w' → Below W1.heap.size W1 (w'.alloc (.cells #[.string x1, .int .i64 x2] 59)) ∧ ((.slice (some ⟨w'.heap.size, 0, none⟩) 1 1 : Value) = undef ∨ ∃ q, (.slice (some ⟨w'.heap.size, 0, none⟩) 1 1 : Value) = .slice (some ⟨q, 0, none⟩) 1 1 ∧ W1.heap.size ≤ q ∧ (w'.alloc (.cells #[.string x1, .int .i64 x2] 59)).heap[q]? = some (.cells #[.string x1, .int .i64 x2] 59 (0, 0)))) := fun w' hb =>
        ⟨hb.alloc hb.size _, .inr ⟨_, rfl, hb.size, heap_alloc_new w' _⟩⟩
      have HQ : Hid (∀ (w' : World) (q : Nat), Below W1.heap.size W1 w' → W1.heap.size ≤ q → w'.heap[q]? = some (.cells #[.string x1, .int .i64 x2] 59 (0, 0)) → Calls Tryd.prog 43 #[.slice (some ⟨g, 0, none⟩) xs.length cap', .int .i64 ((i : Int) + 1), .slice (some ⟨q, 0, none⟩) 1 1] w' fun e w2 => ∃ v1, e = .returned v1 ∧ T1 v1 w2) := fun w' q hb hq1 hq2 => by
        have := insert_is g xs.length cap' q (i + 1) xs (x1, x2) w' (hL1.own.below hb) rfl (by omega) (by omega) hn hq2 (by omega)
        rw [show ((i + 1 : Nat) : Int) = (i : Int) + 1 by omega] at this
        refine this.mono fun e w2 h => ?_
        obtain ⟨v1, h1, h2, h3, h4⟩ := h
        refine ⟨v1, h1, ?_⟩
        rw [hT1]
        exact ⟨h2, (Keep.of_below hb _).trans h3, fun j hj => (h4 j hj).imp id (Nat.le_trans hb.size)⟩
      have hbx : W1.heap[p]? = some (.cells #[.slice (some ⟨g, 0, none⟩) xs.length cap'] 55 (0, 0)) := hL1.box
      have H2 : Hid (∀ (v1 : Value) (w' : World), T1 v1 w' → (w'.cell? ⟨p, 0, none⟩ = some (.slice (some ⟨g, 0, none⟩) xs.length cap') ∧ w'.frozen? ⟨p, 0, none⟩ = false ∧ ∃ a n c, v1 = .slice a n c) ∧ T2 (w'.setCell ⟨p, 0, none⟩ v1)) := fun v1 w' h => by
        rw [hT1] at h
        obtain ⟨h1, h2, h3⟩ := h
        have hr := (h2.block p hpl (by simpa using hpg)).trans hbx
        rw [hT2]
        refine ⟨⟨cell_of_row _ _ 0 _ 55 (0, 0) hr, by simp [World.frozen?, hr], by obtain ⟨a, c, h9⟩ := h1.shape; exact ⟨a, _, c, h9⟩⟩, v1, ⟨heap_setCell_same w' p 0 _ 55 _ hr, h1.keep (Keep.setCell _ _ _ [p] (by simp)) (fun j hj => by
          rcases h3 j hj with rfl | h3
          · simpa using hpg.symm
          · simp; omega)⟩, (h2.mono (by simp)).trans (Keep.setCell _ _ _ _ (by simp)), h3⟩
      have ST0 : Hid (∀ s : Value, Stays fun w' => Below W1.heap.size W1 w' ∧ (s = undef ∨ ∃ q, s = .slice (some ⟨q, 0, none⟩) 1 1 ∧ W1.heap.size ≤ q ∧ w'.heap[q]? = some (.cells #[.string x1, .int .i64 x2] 59 (0, 0)))) := fun s w1 w2 h hb =>
        ⟨h.1.trans (hb.mono h.1.size), h.2.imp id fun ⟨q, h1, h2, h3⟩ => ⟨q, h1, h2, (hb.block q (Array.getElem?_eq_some_iff.1 h3).1).trans h3⟩⟩
      have ST1 : Hid (∀ s : Value, Stays (T1 s)) := fun s => by rw [hT1]; exact fun _ _ h hb => ⟨h.1.below hb, h.2.1.trans (Keep.of_below hb _), h.2.2⟩
      have ST2 : Hid (Stays T2) := by rw [hT2]; exact fun _ _ ⟨v1, h1, h2, h3⟩ hb => ⟨v1, h1.below hb, h2.trans (Keep.of_below hb _), h3⟩
      have HF : Hid (∀ w', T2 w' → Dd w w' p (.slice (some ⟨g, 0, none⟩) xs.length cap') (insL xs (i + 1) (x1, x2))) := fun w' h => by
        rw [hT2] at h
        obtain ⟨v1, h1, h2, h3⟩ := h
        refine ⟨v1, h1, ?_, fun j hj => (h3 j hj).imp (fun e => by simp [foot_slice, e]) (Nat.le_trans hb1.size)⟩
        exact ((Keep.of_below hb1 _).trans h2).mono (by simp [foot_slice])
      clear hW1
      generalize w.heap.size = nb at *
      clear hL1 hb1 hn1 l0 l9 hi hxi hbx hpg h8 hd8
      obtain ⟨I, hI⟩ : ∃ I : (Nat → Bool) → Act → World → Prop, ∀ dn ac wc, I dn ac wc ↔ ∃ s15 s16 s17 s18 s19 s20 s21 s22 s23 s24 s25 s26 s27 s28 s29 s30 s31, ac = ⟨#[.pointer (some ⟨p, 0, none⟩), .agg #[.int .i64 (i : Nat), .int .i64 xb, .int .i64 xc], undef, .pointer (some ⟨nb, 0, none⟩), .pointer (some ⟨p, 0, none⟩), .pointer (some ⟨nb, 0, none⟩), .int .i64 (i : Nat), .bool true, .bool true, .pointer (some ⟨p, 0, none⟩), .pointer (some ⟨p, 0, none⟩), .slice (some ⟨g, 0, none⟩) xs.length cap', .int .i64 (xs.length : Nat), .bool true, .bool true, s15, s16, s17, s18, s19, s20, s21, s22, s23, s24, s25, s26, s27, s28, s29, s30, s31], []⟩ ∧
        St2 wc dn [(0, .pointer (some ⟨p, 0, none⟩), s15), (1, .pointer (some ⟨p, 0, none⟩), s16), (2, .pointer (some ⟨p, 0, none⟩), s17), (3, .slice (some ⟨g, 0, none⟩) xs.length cap', s18), (4, .pointer (some ⟨nb, 0, none⟩), s19), (5, .int .i64 (i : Nat), s20), (6, .int .i64 ((i : Int) + 1), s21), (7, .pointer (some ⟨p, 0, none⟩), s22), (8, .pointer (some ⟨p, 0, none⟩), s23), (9, .slice (some ⟨g, 0, none⟩) xs.length cap', s24), (10, .pointer (some ⟨nb, 0, none⟩), s25), (11, .int .i64 (i : Nat), s26), (12, .pointer (some ⟨g, i * 2, none⟩), s27), (13, .agg #[.string x1, .int .i64 x2], s28), (14, .bool true, tagS s29), (16, .pointer (some ⟨p, 0, none⟩), s31)] (fun w' => Below W1.heap.size W1 w' ∧ (s29 = undef ∨ ∃ q, s29 = .slice (some ⟨q, 0, none⟩) 1 1 ∧ W1.heap.size ≤ q ∧ w'.heap[q]? = some (.cells #[.string x1, .int .i64 x2] 59 (0, 0)))) (fun w' => T1 s30 w') (fun w' => T2 w') 15 17 [1, 2, 3, 4, 5, 6, 7, 8, 9, 10, 11, 12, 13, 14] := ⟨_, fun _ _ _ => Iff.rfl⟩
      have HI := Lib.hid hI
      clear hI
      refine wp_region_invC (by kernel_rfl) (by kernel_rfl) I ?_ ?_ ?_
      · exact (HI.out _ _ _).2 ⟨_, _, _, _, _, _, _, _, _, _, _, _, _, _, _, _, _, rfl, St2.start _ _ _ _ _ _ _ _ ⟨Below.refl _ _, .inl rfl⟩ (ST0.out _)⟩
      · intro i o dn ac wc ho hd hdep hcl hIn
        obtain ⟨s15, s16, s17, s18, s19, s20, s21, s22, s23, s24, s25, s26, s27, s28, s29, s30, s31, rfl, hT⟩ := (HI.out _ _ _).1 hIn
        clear hIn
        rcases i with _ | _ | _ | _ | _ | _ | _ | _ | _ | _ | _ | _ | _ | _ | _ | _ | _ | _ | i
        · obtain rfl := Option.some.inj ho
          have HT := Lib.hid hT
          clear hT hdep hcl
          refine .inl ?_
          unfold Oper.wp
          go_simp
          exact (HI.out _ _ _).2 ⟨_, _, _, _, _, _, _, _, _, _, _, _, _, _, _, _, _, rfl, (HT.out).put 0 0 (.pointer (some ⟨p, 0, none⟩)) (by decide) rfl⟩
        · obtain rfl := Option.some.inj ho
          have HT := Lib.hid hT
          clear hT hdep hcl
          refine .inl ?_
          unfold Oper.wp
          go_simp
          exact (HI.out _ _ _).2 ⟨_, _, _, _, _, _, _, _, _, _, _, _, _, _, _, _, _, rfl, (HT.out).put 1 1 (.pointer (some ⟨p, 0, none⟩)) (by decide) rfl⟩
        · obtain rfl := Option.some.inj ho
          have e1 := hT.vals _ (List.Mem.tail _ (List.Mem.head _)) (hdep ⟨1, .data⟩ (by simp) rfl)
          dsimp only at e1
          subst e1
          have HT := Lib.hid hT
          clear hT hdep hcl
          refine .inl ?_
          unfold Oper.wp
          go_simp
          exact (HI.out _ _ _).2 ⟨_, _, _, _, _, _, _, _, _, _, _, _, _, _, _, _, _, rfl, (HT.out).put 2 2 (.pointer (some ⟨p, 0, none⟩)) (by decide) rfl⟩
        · obtain rfl := Option.some.inj ho
          have e2 := hT.vals _ (List.Mem.tail _ (List.Mem.tail _ (List.Mem.head _))) (hdep ⟨2, .data⟩ (by simp) rfl)
          dsimp only at e2
          subst e2
          have hS := hT.at0 3 hd (by decide)
          have l0 := (hS.1.cell (p := ⟨p, 0, none⟩) hpl).trans c9
          have HT := Lib.hid hT
          clear hT hdep hcl
          clear hS
          refine .inl ?_
          unfold Oper.wp
          go_simp
          exact (HI.out _ _ _).2 ⟨_, _, _, _, _, _, _, _, _, _, _, _, _, _, _, _, _, rfl, (HT.out).put 3 3 (.slice (some ⟨g, 0, none⟩) xs.length cap') (by decide) rfl⟩
        · obtain rfl := Option.some.inj ho
          have HT := Lib.hid hT
          clear hT hdep hcl
          refine .inl ?_
          unfold Oper.wp
          go_simp
          exact (HI.out _ _ _).2 ⟨_, _, _, _, _, _, _, _, _, _, _, _, _, _, _, _, _, rfl, (HT.out).put 4 4 (.pointer (some ⟨nb, 0, none⟩)) (by decide) rfl⟩
        · obtain rfl := Option.some.inj ho
          have e4 := hT.vals _ (List.Mem.tail _ (List.Mem.tail _ (List.Mem.tail _ (List.Mem.tail _ (List.Mem.head _))))) (hdep ⟨4, .data⟩ (by simp) rfl)
          dsimp only at e4
          subst e4
          have hS := hT.at0 5 hd (by decide)
          have l0 := (hS.1.cell (p := ⟨nb, 0, none⟩) hnl).trans c0
          have HT := Lib.hid hT
          clear hT hdep hcl
          clear hS
          refine .inl ?_
          unfold Oper.wp
          go_simp
          exact (HI.out _ _ _).2 ⟨_, _, _, _, _, _, _, _, _, _, _, _, _, _, _, _, _, rfl, (HT.out).put 5 5 (.int .i64 (i : Nat)) (by decide) rfl⟩
        · obtain rfl := Option.some.inj ho
          have e5 := hT.vals _ (List.Mem.tail _ (List.Mem.tail _ (List.Mem.tail _ (List.Mem.tail _ (List.Mem.tail _ (List.Mem.head _)))))) (hdep ⟨5, .data⟩ (by simp) rfl)
          dsimp only at e5
          subst e5
          have HT := Lib.hid hT
          clear hT hdep hcl
          refine .inl ?_
          unfold Oper.wp
          go_simp
          exact (HI.out _ _ _).2 ⟨_, _, _, _, _, _, _, _, _, _, _, _, _, _, _, _, _, rfl, (HT.out).put 6 6 (.int .i64 ((i : Int) + 1)) (by decide) rfl⟩
        · obtain rfl := Option.some.inj ho
          have HT := Lib.hid hT
          clear hT hdep hcl
          refine .inl ?_
          unfold Oper.wp
          go_simp
          exact (HI.out _ _ _).2 ⟨_, _, _, _, _, _, _, _, _, _, _, _, _, _, _, _, _, rfl, (HT.out).put 7 7 (.pointer (some ⟨p, 0, none⟩)) (by decide) rfl⟩
        · obtain rfl := Option.some.inj ho
          have e7 := hT.vals _ (List.Mem.tail _ (List.Mem.tail _ (List.Mem.tail _ (List.Mem.tail _ (List.Mem.tail _ (List.Mem.tail _ (List.Mem.tail _ (List.Mem.head _)))))))) (hdep ⟨7, .data⟩ (by simp) rfl)
          dsimp only at e7
          subst e7
          have HT := Lib.hid hT
          clear hT hdep hcl
          refine .inl ?_
          unfold Oper.wp
          go_simp
          exact (HI.out _ _ _).2 ⟨_, _, _, _, _, _, _, _, _, _, _, _, _, _, _, _, _, rfl, (HT.out).put 8 8 (.pointer (some ⟨p, 0, none⟩)) (by decide) rfl⟩
        · obtain rfl := Option.some.inj ho
          have e8 := hT.vals _ (List.Mem.tail _ (List.Mem.tail _ (List.Mem.tail _ (List.Mem.tail _ (List.Mem.tail _ (List.Mem.tail _ (List.Mem.tail _ (List.Mem.tail _ (List.Mem.head _))))))))) (hdep ⟨8, .data⟩ (by simp) rfl)
          dsimp only at e8
          subst e8
          have hS := hT.at0 9 hd (by decide)
          have l0 := (hS.1.cell (p := ⟨p, 0, none⟩) hpl).trans c9
          have HT := Lib.hid hT
          clear hT hdep hcl
          clear hS
          refine .inl ?_
          unfold Oper.wp
          go_simp
          exact (HI.out _ _ _).2 ⟨_, _, _, _, _, _, _, _, _, _, _, _, _, _, _, _, _, rfl, (HT.out).put 9 9 (.slice (some ⟨g, 0, none⟩) xs.length cap') (by decide) rfl⟩
        · obtain rfl := Option.some.inj ho
          have HT := Lib.hid hT
          clear hT hdep hcl
          refine .inl ?_
          unfold Oper.wp
          go_simp
          exact (HI.out _ _ _).2 ⟨_, _, _, _, _, _, _, _, _, _, _, _, _, _, _, _, _, rfl, (HT.out).put 10 10 (.pointer (some ⟨nb, 0, none⟩)) (by decide) rfl⟩
        · obtain rfl := Option.some.inj ho
          have e10 := hT.vals _ (List.Mem.tail _ (List.Mem.tail _ (List.Mem.tail _ (List.Mem.tail _ (List.Mem.tail _ (List.Mem.tail _ (List.Mem.tail _ (List.Mem.tail _ (List.Mem.tail _ (List.Mem.tail _ (List.Mem.head _))))))))))) (hdep ⟨10, .data⟩ (by simp) rfl)
          dsimp only at e10
          subst e10
          have hS := hT.at0 11 hd (by decide)
          have l0 := (hS.1.cell (p := ⟨nb, 0, none⟩) hnl).trans c0
          have HT := Lib.hid hT
          clear hT hdep hcl
          clear hS
          refine .inl ?_
          unfold Oper.wp
          go_simp
          exact (HI.out _ _ _).2 ⟨_, _, _, _, _, _, _, _, _, _, _, _, _, _, _, _, _, rfl, (HT.out).put 11 11 (.int .i64 (i : Nat)) (by decide) rfl⟩
        · obtain rfl := Option.some.inj ho
          have e9 := hT.vals _ (List.Mem.tail _ (List.Mem.tail _ (List.Mem.tail _ (List.Mem.tail _ (List.Mem.tail _ (List.Mem.tail _ (List.Mem.tail _ (List.Mem.tail _ (List.Mem.tail _ (List.Mem.head _)))))))))) (hdep ⟨9, .data⟩ (by simp) rfl)
          dsimp only at e9
          subst e9
          have e11 := hT.vals _ (List.Mem.tail _ (List.Mem.tail _ (List.Mem.tail _ (List.Mem.tail _ (List.Mem.tail _ (List.Mem.tail _ (List.Mem.tail _ (List.Mem.tail _ (List.Mem.tail _ (List.Mem.tail _ (List.Mem.tail _ (List.Mem.head _)))))))))))) (hdep ⟨11, .data⟩ (by simp) rfl)
          dsimp only at e11
          subst e11
          have HT := Lib.hid hT
          clear hT hdep hcl
          refine .inl ?_
          unfold Oper.wp
          go_simp
          exact (HI.out _ _ _).2 ⟨_, _, _, _, _, _, _, _, _, _, _, _, _, _, _, _, _, rfl, (HT.out).put 12 12 (.pointer (some ⟨g, i * 2, none⟩)) (by decide) rfl⟩
        · obtain rfl := Option.some.inj ho
          have e12 := hT.vals _ (List.Mem.tail _ (List.Mem.tail _ (List.Mem.tail _ (List.Mem.tail _ (List.Mem.tail _ (List.Mem.tail _ (List.Mem.tail _ (List.Mem.tail _ (List.Mem.tail _ (List.Mem.tail _ (List.Mem.tail _ (List.Mem.tail _ (List.Mem.head _))))))))))))) (hdep ⟨12, .data⟩ (by simp) rfl)
          dsimp only at e12
          subst e12
          have hS := hT.at0 13 hd (by decide)
          have l0 := (hS.1.cell (p := ⟨g, i * 2, none⟩) hgl).trans cx1
          have l1 := (hS.1.cell (p := ⟨g, i * 2 + 1, none⟩) hgl).trans cx2
          have HT := Lib.hid hT
          clear hT hdep hcl
          clear hS
          refine .inl ?_
          unfold Oper.wp
          go_simp
          exact (HI.out _ _ _).2 ⟨_, _, _, _, _, _, _, _, _, _, _, _, _, _, _, _, _, rfl, (HT.out).put 13 13 (.agg #[.string x1, .int .i64 x2]) (by decide) rfl⟩
        · obtain rfl := Option.some.inj ho
          have e13 := hT.vals _ (List.Mem.tail _ (List.Mem.tail _ (List.Mem.tail _ (List.Mem.tail _ (List.Mem.tail _ (List.Mem.tail _ (List.Mem.tail _ (List.Mem.tail _ (List.Mem.tail _ (List.Mem.tail _ (List.Mem.tail _ (List.Mem.tail _ (List.Mem.tail _ (List.Mem.head _)))))))))))))) (hdep ⟨13, .data⟩ (by simp) rfl)
          dsimp only at e13
          subst e13
          have hS := hT.at0 14 hd (by decide)
          have hnew := Lib.hid (H0.out wc hS.1)
          have HT := Lib.hid hT
          clear hT hdep hcl
          refine .inl ?_
          unfold Oper.wp
          go_simp
          exact (HI.out _ _ _).2 ⟨_, _, _, _, _, _, _, _, _, _, _, _, _, _, _, _, _, rfl, HT.out.midV 14 14 (.bool true) hd (by decide) (by decide) rfl hnew.out⟩
        · obtain rfl := Option.some.inj ho
          have e3 := hT.vals _ (List.Mem.tail _ (List.Mem.tail _ (List.Mem.tail _ (List.Mem.head _)))) (hdep ⟨3, .data⟩ (by simp) rfl)
          dsimp only at e3
          subst e3
          have e6 := hT.vals _ (List.Mem.tail _ (List.Mem.tail _ (List.Mem.tail _ (List.Mem.tail _ (List.Mem.tail _ (List.Mem.tail _ (List.Mem.head _))))))) (hdep ⟨6, .data⟩ (by simp) rfl)
          dsimp only at e6
          subst e6
          have e14 := hT.vals _ (List.Mem.tail _ (List.Mem.tail _ (List.Mem.tail _ (List.Mem.tail _ (List.Mem.tail _ (List.Mem.tail _ (List.Mem.tail _ (List.Mem.tail _ (List.Mem.tail _ (List.Mem.tail _ (List.Mem.tail _ (List.Mem.tail _ (List.Mem.tail _ (List.Mem.tail _ (List.Mem.head _))))))))))))))) (hdep ⟨14, .data⟩ (by simp) rfl)
          dsimp only at e14
          have d3 := hdep ⟨3, .data⟩ (by simp) rfl
          have d6 := hdep ⟨6, .data⟩ (by simp) rfl
          have d14 := hdep ⟨14, .data⟩ (by simp) rfl
          have d2 := hcl 3 _ rfl d3 ⟨2, .data⟩ (by simp) rfl
          have d1 := hcl 2 _ rfl d2 ⟨1, .data⟩ (by simp) rfl
          have d5 := hcl 6 _ rfl d6 ⟨5, .data⟩ (by simp) rfl
          have d4 := hcl 5 _ rfl d5 ⟨4, .data⟩ (by simp) rfl
          have d13 := hcl 14 _ rfl d14 ⟨13, .data⟩ (by simp) rfl
          have d12 := hcl 13 _ rfl d13 ⟨12, .data⟩ (by simp) rfl
          have d9 := hcl 12 _ rfl d12 ⟨9, .data⟩ (by simp) rfl
          have d11 := hcl 12 _ rfl d12 ⟨11, .data⟩ (by simp) rfl
          have d8 := hcl 9 _ rfl d9 ⟨8, .data⟩ (by simp) rfl
          have d7 := hcl 8 _ rfl d8 ⟨7, .data⟩ (by simp) rfl
          have d10 := hcl 11 _ rfl d11 ⟨10, .data⟩ (by simp) rfl
          have hpre : ∀ e ∈ [1, 2, 3, 4, 5, 6, 7, 8, 9, 10, 11, 12, 13, 14], dn e = true := by
            intro e he
            simp only [List.mem_cons, List.not_mem_nil, or_false] at he
            rcases he with rfl | rfl | rfl | rfl | rfl | rfl | rfl | rfl | rfl | rfl | rfl | rfl | rfl | rfl
            · exact d1
            · exact d2
            · exact d3
            · exact d4
            · exact d5
            · exact d6
            · exact d7
            · exact d8
            · exact d9
            · exact d10
            · exact d11
            · exact d12
            · exact d13
            · exact d14
          have hS := hT.at0 15 hd (by decide)
          obtain ⟨hSb, hSq⟩ := hS
          rcases hSq with rfl | ⟨q, rfl, hq1, hq2⟩
          · cases e14
          have hq := HQ.out wc q hSb hq1 hq2
          have hS := True.intro
          have HT := Lib.hid hT
          clear hT hdep hcl hS
          refine .inl ?_
          unfold Oper.wp
          go_simp
          (with_reducible refine hq.mono ?_); rintro e w1 hw1
          obtain ⟨v1, rfl, hw1⟩ := hw1
          have hnew := Lib.hid hw1
          exact (HI.out _ _ _).2 ⟨_, _, _, _, _, _, _, _, _, _, _, _, _, _, _, _, _, rfl, HT.out.fstV hd (by decide) hpre rfl hnew.out⟩
        · obtain rfl := Option.some.inj ho
          have e0 := hT.vals _ (List.Mem.head _) (hdep ⟨0, .data⟩ (by simp) rfl)
          dsimp only at e0
          subst e0
          have HT := Lib.hid hT
          clear hT hdep hcl
          refine .inl ?_
          unfold Oper.wp
          go_simp
          exact (HI.out _ _ _).2 ⟨_, _, _, _, _, _, _, _, _, _, _, _, _, _, _, _, _, rfl, (HT.out).put 16 15 (.pointer (some ⟨p, 0, none⟩)) (by decide) rfl⟩
        · obtain rfl := Option.some.inj ho
          have e16 := hT.vals _ (List.Mem.tail _ (List.Mem.tail _ (List.Mem.tail _ (List.Mem.tail _ (List.Mem.tail _ (List.Mem.tail _ (List.Mem.tail _ (List.Mem.tail _ (List.Mem.tail _ (List.Mem.tail _ (List.Mem.tail _ (List.Mem.tail _ (List.Mem.tail _ (List.Mem.tail _ (List.Mem.tail _ (List.Mem.head _)))))))))))))))) (hdep ⟨16, .data⟩ (by simp) rfl)
          dsimp only at e16
          subst e16
          have hi1 := hdep ⟨15, .chain⟩ (by simp) rfl
          have hS := hT.at1 hd hi1
          obtain ⟨⟨l0, f0, sa, sn, sc, rfl⟩, hs1⟩ := H2.out _ _ hS
          have hnew := Lib.hid hs1
          clear hs1
          have HT := Lib.hid hT
          clear hT hdep hcl hS
          refine .inl ?_
          unfold Oper.wp
          go_simp
          exact (HI.out _ _ _).2 ⟨_, _, _, _, _, _, _, _, _, _, _, _, _, _, _, _, _, rfl, HT.out.snd (by decide) hi1 rfl hnew.out⟩
        · cases ho
      · intro dn ac wc hd hIn
        obtain ⟨s15, s16, s17, s18, s19, s20, s21, s22, s23, s24, s25, s26, s27, s28, s29, s30, s31, rfl, hT⟩ := (HI.out _ _ _).1 hIn
        have hF := Lib.hid (hT.done (hd 17 (by decide)))
        clear HI hIn hT hd
        go_end0
        exact ⟨rfl, by rw [HS.out]; exact HF.out _ hF.out⟩
    · have HS : Hid (twiceL ⟨xw, xa, xb, xc⟩ xs = xs) := by show _ = _; unfold twiceL; rw [if_neg (fun h => h8 h.2)]
      have hd8 : ¬ (xs.length : Int) < 8192 := by omega
      clear h
      go_enter Tryd.func31, Tryd.ntmps31
      go_wp2_with (go_at_call 41; (with_reducible refine hq1.mono ?_); rintro e w1 ⟨rfl, h9⟩; subst h9; clear hq1)
      go_end0
      exact ⟨rfl, by rw [HS.out]; exact Dd.same H.out hb1⟩
  · rw [decide_eq_false (show ¬ (0 ≤ xa ∧ xa < (xs.length : Int)) from hi)] at hq1
    have HS : Hid (twiceL ⟨xw, xa, xb, xc⟩ xs = xs) := by show _ = _; unfold twiceL; rw [if_neg (fun h => hi h.1)]
    clear h l9
    go_enter Tryd.func31, Tryd.ntmps31
    go_wp2_with (go_at_call 41; (with_reducible refine hq1.mono ?_); rintro e w1 ⟨rfl, h9⟩; subst h9; clear hq1)
    go_end0
    exact ⟨rfl, by rw [HS.out]; exact Dd.same H.out hb1⟩
end Go.Proofs.YthoemgiadadfcaaDoor
