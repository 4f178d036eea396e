/- The deed that changes two places: its walk. -/
import Derived.Test.YthoemgiadadfcaaDoorRdSpoil
import Derived.Test.YthoemgiadadfcaaDoorSt2
set_option linter.unusedVariables false
set_option linter.unusedSimpArgs false
namespace Go.Proofs.YthoemgiadadfcaaDoor
open Go.RowKit Go.Sort Rd
namespace Rd
def swapL (x : Ac) (xs : List It) : List It := if inn x.a xs.length ∧ inn x.b xs.length then (xs.set x.a.toNat (xs.getD x.b.toNat (ByteArray.empty, 0))).set x.b.toNat (xs.getD x.a.toNat (ByteArray.empty, 0)) else xs
end Rd
/-- A place of the list written, both its cells. -/
theorem Lb.write {w w0 : World} {p g n cap : Nat} {xs : List It} (h : Lb w p (.slice (some ⟨g, 0, none⟩) n cap) xs) (hl : xs.length = n) (hk : Keep w0 w [g]) (i : Nat) (x y : It) (hx : xs[i]? = some x) :
    Lb ((w.setCell ⟨g, i * 2, none⟩ (.string y.1)).setCell ⟨g, i * 2 + 1, none⟩ (.int .i64 y.2)) p (.slice (some ⟨g, 0, none⟩) n cap) (xs.set i y) ∧
      Keep w0 ((w.setCell ⟨g, i * 2, none⟩ (.string y.1)).setCell ⟨g, i * 2 + 1, none⟩ (.int .i64 y.2)) [g] := by
  have hpg : p ≠ g := fun e => h.out (by simp [foot_slice, e])
  have h1 := h.own.stored lc_length hl i x (y.1, x.2) hx 0 (.string y.1) (by omega) rfl
  have hi : i < xs.length := (List.getElem?_eq_some_iff.1 hx).1
  have h2 := h1.stored lc_length (by rw [List.length_set]; exact hl) i (y.1, x.2) y (by rw [List.getElem?_set_self hi]) 1 (.int .i64 y.2) (by omega) rfl
  rw [List.set_set] at h2
  refine ⟨⟨?_, h2⟩, (hk.trans (Keep.setCell _ _ _ _ (by simp))).trans (Keep.setCell _ _ _ _ (by simp))⟩
  rw [Below.heap_setCell _ _ _ _ hpg, Below.heap_setCell _ _ _ _ hpg]; exact h.box
set_option maxRecDepth 100000 in
set_option maxHeartbeats 3200000 in
theorem swap_is (p : Nat) (v : Value) (xs : List It) (x : Ac) (w : World) (h : Lb w p v xs) (hn : xs.length ≤ 100000) :
    Calls Tryd.prog 32 #[.pointer (some ⟨p, 0, none⟩), n3 x] w fun e w' => e = .returned (.tuple #[]) ∧ Dd w w' p v (swapL x xs) := by
  obtain ⟨xw, xa, xb, xc⟩ := x
  obtain ⟨a, cap, hv⟩ := h.own.shape
  have hb1 : Below w.heap.size w (w.alloc (.cells #[.int .i64 xa, .int .i64 xb, .int .i64 xc] 27)) := (Below.refl _ _).alloc (Nat.le_refl _) _
  have hn1 : (w.alloc (.cells #[.int .i64 xa, .int .i64 xb, .int .i64 xc] 27)).heap[w.heap.size]? = some (.cells #[.int .i64 xa, .int .i64 xb, .int .i64 xc] 27 (0, 0)) := heap_alloc_new w _
  have l0 : (w.alloc (.cells #[.int .i64 xa, .int .i64 xb, .int .i64 xc] 27)).cell? ⟨w.heap.size, 0, none⟩ = some (.int .i64 xa) := cell_of_row _ _ 0 _ 27 (0, 0) hn1
  have l1 : (w.alloc (.cells #[.int .i64 xa, .int .i64 xb, .int .i64 xc] 27)).cell? ⟨w.heap.size, 1, none⟩ = some (.int .i64 xb) := cell_of_row _ _ 1 _ 27 (0, 0) hn1
  have l9 := (h.below hb1).cell
  rw [hv] at l9
  have hq1 := has_is p a xs.length cap xa _ l9
  have hq2 := has_is p a xs.length cap xb _ l9
  have H := Lib.hid h
  show Calls Tryd.prog 32 #[.pointer (some ⟨p, 0, none⟩), .agg #[.int .i64 xa, .int .i64 xb, .int .i64 xc]] w _
  by_cases hi : inn xa xs.length
  · rw [decide_eq_true (show 0 ≤ xa ∧ xa < (xs.length : Int) from hi)] at hq1
    by_cases hj : inn xb xs.length
    · rw [decide_eq_true (show 0 ≤ xb ∧ xb < (xs.length : Int) from hj)] at hq2
      obtain ⟨i, rfl⟩ : ∃ i : Nat, xa = i := ⟨xa.toNat, by unfold inn at hi; omega⟩
      obtain ⟨j, rfl⟩ : ∃ j : Nat, xb = j := ⟨xb.toNat, by unfold inn at hj; omega⟩
      have hil : i < xs.length := by unfold inn at hi; omega
      have hjl : j < xs.length := by unfold inn at hj; omega
      obtain ⟨⟨x1, x2⟩, hxi⟩ : ∃ it, xs[i]? = some it := ⟨xs[i], List.getElem?_eq_getElem hil⟩
      obtain ⟨⟨y1, y2⟩, hxj⟩ : ∃ it, xs[j]? = some it := ⟨xs[j], List.getElem?_eq_getElem hjl⟩
      have HS : Hid (swapL ⟨xw, i, j, xc⟩ xs = (xs.set i (y1, y2)).set j (x1, x2)) := by
        show _ = _; unfold swapL; rw [if_pos ⟨hi, hj⟩]
        simp only [Int.toNat_natCast, List.getD_eq_getElem?_getD, hxi, hxj, Option.getD_some]
      obtain ⟨g, cap', hv2, hcap⟩ := h.own.form (by omega)
      rw [hv] at hv2
      obtain ⟨rfl, rfl⟩ : a = some ⟨g, 0, none⟩ ∧ cap' = cap := by injection hv2 with e1 e2 e3; exact ⟨e1, e3.symm⟩
      subst hv
      clear h hv2
      go_enter Tryd.func32, Tryd.ntmps32
      go_upto_region 2 with (first | (go_at_call 41; (with_reducible refine hq1.mono ?_); rintro e w1 ⟨rfl, h9⟩; subst h9; clear hq1) | (go_at_call 41; (with_reducible refine hq2.mono ?_); rintro e w1 ⟨rfl, h9⟩; subst h9; clear hq2))
      obtain ⟨W1, hW1⟩ : ∃ W1, W1 = w.alloc (.cells #[.int .i64 (i : Nat), .int .i64 (j : Nat), .int .i64 xc] 27) := ⟨_, rfl⟩
      rw [← hW1] at hb1 hn1 l0 l1 l9 ⊢
      have hpl : p < W1.heap.size := Nat.lt_of_lt_of_le H.out.lt hb1.size
      have hnl : w.heap.size < W1.heap.size := (Array.getElem?_eq_some_iff.1 hn1).1
      have c0 := l0
      have c1 := l1
      have c9 := l9
      have hL1 := H.out.below hb1
      have hgl : g < W1.heap.size := Nat.lt_of_lt_of_le (H.out.own.lt g (by simp [foot_slice])) hb1.size
      have cx1 : W1.cell? ⟨g, i * 2, none⟩ = some (.string x1) := hL1.own.cell lc_length i _ hxi 0 (.string x1) rfl
      have cx2 : W1.cell? ⟨g, i * 2 + 1, none⟩ = some (.int .i64 x2) := hL1.own.cell lc_length i _ hxi 1 (.int .i64 x2) rfl
      have cy1 : W1.cell? ⟨g, j * 2, none⟩ = some (.string y1) := hL1.own.cell lc_length j _ hxj 0 (.string y1) rfl
      have cy2 : W1.cell? ⟨g, j * 2 + 1, none⟩ = some (.int .i64 y2) := hL1.own.cell lc_length j _ hxj 1 (.int .i64 y2) rfl
      obtain ⟨T1, hT1⟩ : ∃ T1 : World → Prop, T1 = fun w' => Lb w' p (.slice (some ⟨g, 0, none⟩) xs.length cap') (xs.set i (y1, y2)) ∧ Keep W1 w' [g] := ⟨_, rfl⟩
      obtain ⟨T2, hT2⟩ : ∃ T2 : World → Prop, T2 = fun w' => Lb w' p (.slice (some ⟨g, 0, none⟩) xs.length cap') ((xs.set i (y1, y2)).set j (x1, x2)) ∧ Keep W1 w' [g] := ⟨_, rfl⟩
      have hng : w.heap.size ≠ g := fun e => by
        have := H.out.own.lt g (by simp [foot_slice])
        omega
      have H1 : Hid (∀ w', Below W1.heap.size W1 w' → (w'.cell? ⟨g, i * 2, none⟩ = some (.string x1) ∧ w'.cell? ⟨g, i * 2 + 1, none⟩ = some (.int .i64 x2) ∧ w'.frozen? ⟨g, i * 2, none⟩ = false ∧ w'.frozen? ⟨g, i * 2 + 1, none⟩ = false) ∧
          T1 ((w'.setCell ⟨g, i * 2, none⟩ (.string y1)).setCell ⟨g, i * 2 + 1, none⟩ (.int .i64 y2))) := fun w' hb => by
        have h2 := hL1.below hb
        refine ⟨⟨(hb.cell (p := ⟨g, i * 2, none⟩) hgl).trans cx1, (hb.cell (p := ⟨g, i * 2 + 1, none⟩) hgl).trans cx2, h2.own.free _, h2.own.free _⟩, ?_⟩
        rw [hT1]
        exact h2.write rfl (Keep.of_below hb _) i (x1, x2) (y1, y2) hxi
      have H2 : Hid (∀ w', T1 w' → (w'.cell? ⟨g, j * 2, none⟩ = some (.string ((xs.set i (y1, y2)).getD j (y1, y2)).1) ∧ w'.cell? ⟨g, j * 2 + 1, none⟩ = some (.int .i64 ((xs.set i (y1, y2)).getD j (y1, y2)).2) ∧ w'.frozen? ⟨g, j * 2, none⟩ = false ∧ w'.frozen? ⟨g, j * 2 + 1, none⟩ = false) ∧
          T2 ((w'.setCell ⟨g, j * 2, none⟩ (.string x1)).setCell ⟨g, j * 2 + 1, none⟩ (.int .i64 x2))) := fun w' h => by
        rw [hT1] at h
        have hjl' : j < (xs.set i (y1, y2)).length := by rw [List.length_set]; exact hjl
        have hgd : (xs.set i (y1, y2))[j]? = some ((xs.set i (y1, y2)).getD j (y1, y2)) := by rw [List.getD_eq_getElem?_getD, List.getElem?_eq_getElem hjl']; rfl
        refine ⟨⟨h.1.own.cell lc_length j _ hgd 0 _ rfl, h.1.own.cell lc_length j _ hgd 1 _ rfl, h.1.own.free _, h.1.own.free _⟩, ?_⟩
        rw [hT2]
        exact h.1.write (by rw [List.length_set]) h.2 j _ (x1, x2) hgd
      have HA0 : Hid (∀ w', Below W1.heap.size W1 w' → w'.cell? ⟨w.heap.size, 1, none⟩ = some (.int .i64 (j : Nat))) := fun w' h => (h.cell (p := ⟨w.heap.size, 1, none⟩) hnl).trans c1
      have HA1 : Hid (∀ w', T1 w' → w'.cell? ⟨w.heap.size, 1, none⟩ = some (.int .i64 (j : Nat))) := fun w' h => by
        rw [hT1] at h
        exact (World.cell?_of_block (h.2.block _ hnl (by simpa using hng))).trans c1
      have HA2 : Hid (∀ w', T2 w' → w'.cell? ⟨w.heap.size, 1, none⟩ = some (.int .i64 (j : Nat))) := fun w' h => by
        rw [hT2] at h
        exact (World.cell?_of_block (h.2.block _ hnl (by simpa using hng))).trans c1
      have HB0 : Hid (∀ w', Below W1.heap.size W1 w' → w'.cell? ⟨w.heap.size, 0, none⟩ = some (.int .i64 (i : Nat))) := fun w' h => (h.cell (p := ⟨w.heap.size, 0, none⟩) hnl).trans c0
      have HB1 : Hid (∀ w', T1 w' → w'.cell? ⟨w.heap.size, 0, none⟩ = some (.int .i64 (i : Nat))) := fun w' h => by
        rw [hT1] at h
        exact (World.cell?_of_block (h.2.block _ hnl (by simpa using hng))).trans c0
      have HB2 : Hid (∀ w', T2 w' → w'.cell? ⟨w.heap.size, 0, none⟩ = some (.int .i64 (i : Nat))) := fun w' h => by
        rw [hT2] at h
        exact (World.cell?_of_block (h.2.block _ hnl (by simpa using hng))).trans c0
      have ST1 : Hid (Stays T1) := by rw [hT1]; exact fun _ _ h hb => ⟨h.1.below hb, h.2.trans (Keep.of_below hb _)⟩
      have ST2 : Hid (Stays T2) := by rw [hT2]; exact fun _ _ h hb => ⟨h.1.below hb, h.2.trans (Keep.of_below hb _)⟩
      have HF : Hid (∀ w', T2 w' → Dd w w' p (.slice (some ⟨g, 0, none⟩) xs.length cap') ((xs.set i (y1, y2)).set j (x1, x2))) := fun w' h => by
        rw [hT2] at h
        refine ⟨_, h.1, ?_, fun j hj => .inl hj⟩
        exact ((Keep.of_below hb1 _).trans h.2).mono (by simp [foot_slice])
      clear hW1
      generalize w.heap.size = nb at *
      generalize ((xs.set i (y1, y2)).getD j (y1, y2)) = zz at *
      clear hL1 hb1 hn1 l0 l1 l9 hi hj hng hxi hxj
      obtain ⟨I, hI⟩ : ∃ I : (Nat → Bool) → Act → World → Prop, ∀ dn ac wc, I dn ac wc ↔ ∃ s14 s15 s16 s17 s18 s19 s20 s21 s22 s23 s24 s25 s26 s27 s28 s29 s30 s31 s32 s33 s34 s35 s36 s37 s38 s39, ac = ⟨#[.pointer (some ⟨p, 0, none⟩), .agg #[.int .i64 (i : Nat), .int .i64 (j : Nat), .int .i64 xc], undef, .pointer (some ⟨nb, 0, none⟩), .pointer (some ⟨p, 0, none⟩), .pointer (some ⟨nb, 0, none⟩), .int .i64 (i : Nat), .bool true, .bool true, .pointer (some ⟨p, 0, none⟩), .pointer (some ⟨nb, 1, none⟩), .int .i64 (j : Nat), .bool true, .bool true, s14, s15, s16, s17, s18, s19, s20, s21, s22, s23, s24, s25, s26, s27, s28, s29, s30, s31, s32, s33, s34, s35, s36, s37, s38, s39], []⟩ ∧
        St2 wc dn [(0, .pointer (some ⟨p, 0, none⟩), s14), (1, .pointer (some ⟨p, 0, none⟩), s15), (2, .slice (some ⟨g, 0, none⟩) xs.length cap', s16), (3, .pointer (some ⟨nb, 0, none⟩), s17), (4, .int .i64 (i : Nat), s18), (5, .pointer (some ⟨p, 0, none⟩), s19), (6, .pointer (some ⟨p, 0, none⟩), s20), (7, .slice (some ⟨g, 0, none⟩) xs.length cap', s21), (8, .pointer (some ⟨nb, 1, none⟩), s22), (9, .int .i64 (j : Nat), s23), (10, .pointer (some ⟨p, 0, none⟩), s24), (11, .pointer (some ⟨p, 0, none⟩), s25), (12, .slice (some ⟨g, 0, none⟩) xs.length cap', s26), (13, .pointer (some ⟨nb, 1, none⟩), s27), (14, .int .i64 (j : Nat), s28), (15, .pointer (some ⟨g, j * 2, none⟩), s29), (16, .agg #[.string y1, .int .i64 y2], s30), (17, .pointer (some ⟨p, 0, none⟩), s31), (18, .pointer (some ⟨p, 0, none⟩), s32), (19, .slice (some ⟨g, 0, none⟩) xs.length cap', s33), (20, .pointer (some ⟨nb, 0, none⟩), s34), (21, .int .i64 (i : Nat), s35), (22, .pointer (some ⟨g, i * 2, none⟩), s36), (23, .agg #[.string x1, .int .i64 x2], s37), (24, .pointer (some ⟨g, i * 2, none⟩), s38), (26, .pointer (some ⟨g, j * 2, none⟩), s39)] (fun w' => Below W1.heap.size W1 w') (fun w' => T1 w') (fun w' => T2 w') 25 27 [0, 1, 2, 3, 4, 7, 10, 11, 12, 13, 14, 15, 16, 19, 23, 24] := ⟨_, fun _ _ _ => Iff.rfl⟩
      have HI := Lib.hid hI
      clear hI
      refine wp_region_inv (by kernel_rfl) (by kernel_rfl) I ?_ ?_ ?_
      · exact (HI.out _ _ _).2 ⟨_, _, _, _, _, _, _, _, _, _, _, _, _, _, _, _, _, _, _, _, _, _, _, _, _, _, rfl, St2.start _ _ _ _ _ _ _ _ (Below.refl _ _) (fun _ _ h hb => h.trans (hb.mono h.size))⟩
      · intro i o dn ac wc ho hd hdep hIn
        obtain ⟨s14, s15, s16, s17, s18, s19, s20, s21, s22, s23, s24, s25, s26, s27, s28, s29, s30, s31, s32, s33, s34, s35, s36, s37, s38, s39, rfl, hT⟩ := (HI.out _ _ _).1 hIn
        clear hIn
        rcases i with _ | _ | _ | _ | _ | _ | _ | _ | _ | _ | _ | _ | _ | _ | _ | _ | _ | _ | _ | _ | _ | _ | _ | _ | _ | _ | _ | _ | i
        · obtain rfl := Option.some.inj ho
          have HT := Lib.hid hT
          clear hT hdep
          refine .inl ?_
          unfold Oper.wp
          go_simp
          exact (HI.out _ _ _).2 ⟨_, _, _, _, _, _, _, _, _, _, _, _, _, _, _, _, _, _, _, _, _, _, _, _, _, _, rfl, (HT.out).put 0 0 (.pointer (some ⟨p, 0, none⟩)) (by decide) rfl⟩
        · obtain rfl := Option.some.inj ho
          have e0 := hT.vals _ (List.Mem.head _) (hdep ⟨0, .data⟩ (by simp) rfl)
          dsimp only at e0
          subst e0
          have HT := Lib.hid hT
          clear hT hdep
          refine .inl ?_
          unfold Oper.wp
          go_simp
          exact (HI.out _ _ _).2 ⟨_, _, _, _, _, _, _, _, _, _, _, _, _, _, _, _, _, _, _, _, _, _, _, _, _, _, rfl, (HT.out).put 1 1 (.pointer (some ⟨p, 0, none⟩)) (by decide) rfl⟩
        · obtain rfl := Option.some.inj ho
          have e1 := hT.vals _ (List.Mem.tail _ (List.Mem.head _)) (hdep ⟨1, .data⟩ (by simp) rfl)
          dsimp only at e1
          subst e1
          have hS := hT.at0 2 hd (by decide)
          have l0 := (hS.cell (p := ⟨p, 0, none⟩) hpl).trans c9
          have HT := Lib.hid hT
          clear hT hdep
          clear hS
          refine .inl ?_
          unfold Oper.wp
          go_simp
          exact (HI.out _ _ _).2 ⟨_, _, _, _, _, _, _, _, _, _, _, _, _, _, _, _, _, _, _, _, _, _, _, _, _, _, rfl, (HT.out).put 2 2 (.slice (some ⟨g, 0, none⟩) xs.length cap') (by decide) rfl⟩
        · obtain rfl := Option.some.inj ho
          have HT := Lib.hid hT
          clear hT hdep
          refine .inl ?_
          unfold Oper.wp
          go_simp
          exact (HI.out _ _ _).2 ⟨_, _, _, _, _, _, _, _, _, _, _, _, _, _, _, _, _, _, _, _, _, _, _, _, _, _, rfl, (HT.out).put 3 3 (.pointer (some ⟨nb, 0, none⟩)) (by decide) rfl⟩
        · obtain rfl := Option.some.inj ho
          have e3 := hT.vals _ (List.Mem.tail _ (List.Mem.tail _ (List.Mem.tail _ (List.Mem.head _)))) (hdep ⟨3, .data⟩ (by simp) rfl)
          dsimp only at e3
          subst e3
          have hS := hT.at0 4 hd (by decide)
          have l0 := (hS.cell (p := ⟨nb, 0, none⟩) hnl).trans c0
          have HT := Lib.hid hT
          clear hT hdep
          clear hS
          refine .inl ?_
          unfold Oper.wp
          go_simp
          exact (HI.out _ _ _).2 ⟨_, _, _, _, _, _, _, _, _, _, _, _, _, _, _, _, _, _, _, _, _, _, _, _, _, _, rfl, (HT.out).put 4 4 (.int .i64 (i : Nat)) (by decide) rfl⟩
        · obtain rfl := Option.some.inj ho
          have HT := Lib.hid hT
          clear hT hdep
          refine .inl ?_
          unfold Oper.wp
          go_simp
          exact (HI.out _ _ _).2 ⟨_, _, _, _, _, _, _, _, _, _, _, _, _, _, _, _, _, _, _, _, _, _, _, _, _, _, rfl, (HT.out).put 5 5 (.pointer (some ⟨p, 0, none⟩)) (by decide) rfl⟩
        · obtain rfl := Option.some.inj ho
          have e5 := hT.vals _ (List.Mem.tail _ (List.Mem.tail _ (List.Mem.tail _ (List.Mem.tail _ (List.Mem.tail _ (List.Mem.head _)))))) (hdep ⟨5, .data⟩ (by simp) rfl)
          dsimp only at e5
          subst e5
          have HT := Lib.hid hT
          clear hT hdep
          refine .inl ?_
          unfold Oper.wp
          go_simp
          exact (HI.out _ _ _).2 ⟨_, _, _, _, _, _, _, _, _, _, _, _, _, _, _, _, _, _, _, _, _, _, _, _, _, _, rfl, (HT.out).put 6 6 (.pointer (some ⟨p, 0, none⟩)) (by decide) rfl⟩
        · obtain rfl := Option.some.inj ho
          have e6 := hT.vals _ (List.Mem.tail _ (List.Mem.tail _ (List.Mem.tail _ (List.Mem.tail _ (List.Mem.tail _ (List.Mem.tail _ (List.Mem.head _))))))) (hdep ⟨6, .data⟩ (by simp) rfl)
          dsimp only at e6
          subst e6
          have hS := hT.at0 7 hd (by decide)
          have l0 := (hS.cell (p := ⟨p, 0, none⟩) hpl).trans c9
          have HT := Lib.hid hT
          clear hT hdep
          clear hS
          refine .inl ?_
          unfold Oper.wp
          go_simp
          exact (HI.out _ _ _).2 ⟨_, _, _, _, _, _, _, _, _, _, _, _, _, _, _, _, _, _, _, _, _, _, _, _, _, _, rfl, (HT.out).put 7 7 (.slice (some ⟨g, 0, none⟩) xs.length cap') (by decide) rfl⟩
        · obtain rfl := Option.some.inj ho
          have HT := Lib.hid hT
          clear hT hdep
          refine .inl ?_
          unfold Oper.wp
          go_simp
          exact (HI.out _ _ _).2 ⟨_, _, _, _, _, _, _, _, _, _, _, _, _, _, _, _, _, _, _, _, _, _, _, _, _, _, rfl, (HT.out).put 8 8 (.pointer (some ⟨nb, 1, none⟩)) (by decide) rfl⟩
        · obtain rfl := Option.some.inj ho
          have e8 := hT.vals _ (List.Mem.tail _ (List.Mem.tail _ (List.Mem.tail _ (List.Mem.tail _ (List.Mem.tail _ (List.Mem.tail _ (List.Mem.tail _ (List.Mem.tail _ (List.Mem.head _))))))))) (hdep ⟨8, .data⟩ (by simp) rfl)
          dsimp only at e8
          subst e8
          have hS := hT.any (fun w' => w'.cell? ⟨nb, 1, none⟩ = some (.int .i64 (j : Nat))) HA0.out HA1.out HA2.out
          have l0 := hS
          have HT := Lib.hid hT
          clear hT hdep
          clear hS
          refine .inl ?_
          unfold Oper.wp
          go_simp
          exact (HI.out _ _ _).2 ⟨_, _, _, _, _, _, _, _, _, _, _, _, _, _, _, _, _, _, _, _, _, _, _, _, _, _, rfl, (HT.out).put 9 9 (.int .i64 (j : Nat)) (by decide) rfl⟩
        · obtain rfl := Option.some.inj ho
          have HT := Lib.hid hT
          clear hT hdep
          refine .inl ?_
          unfold Oper.wp
          go_simp
          exact (HI.out _ _ _).2 ⟨_, _, _, _, _, _, _, _, _, _, _, _, _, _, _, _, _, _, _, _, _, _, _, _, _, _, rfl, (HT.out).put 10 10 (.pointer (some ⟨p, 0, none⟩)) (by decide) rfl⟩
        · obtain rfl := Option.some.inj ho
          have e10 := hT.vals _ (List.Mem.tail _ (List.Mem.tail _ (List.Mem.tail _ (List.Mem.tail _ (List.Mem.tail _ (List.Mem.tail _ (List.Mem.tail _ (List.Mem.tail _ (List.Mem.tail _ (List.Mem.tail _ (List.Mem.head _))))))))))) (hdep ⟨10, .data⟩ (by simp) rfl)
          dsimp only at e10
          subst e10
          have HT := Lib.hid hT
          clear hT hdep
          refine .inl ?_
          unfold Oper.wp
          go_simp
          exact (HI.out _ _ _).2 ⟨_, _, _, _, _, _, _, _, _, _, _, _, _, _, _, _, _, _, _, _, _, _, _, _, _, _, rfl, (HT.out).put 11 11 (.pointer (some ⟨p, 0, none⟩)) (by decide) rfl⟩
        · obtain rfl := Option.some.inj ho
          have e11 := hT.vals _ (List.Mem.tail _ (List.Mem.tail _ (List.Mem.tail _ (List.Mem.tail _ (List.Mem.tail _ (List.Mem.tail _ (List.Mem.tail _ (List.Mem.tail _ (List.Mem.tail _ (List.Mem.tail _ (List.Mem.tail _ (List.Mem.head _)))))))))))) (hdep ⟨11, .data⟩ (by simp) rfl)
          dsimp only at e11
          subst e11
          have hS := hT.at0 12 hd (by decide)
          have l0 := (hS.cell (p := ⟨p, 0, none⟩) hpl).trans c9
          have HT := Lib.hid hT
          clear hT hdep
          clear hS
          refine .inl ?_
          unfold Oper.wp
          go_simp
          exact (HI.out _ _ _).2 ⟨_, _, _, _, _, _, _, _, _, _, _, _, _, _, _, _, _, _, _, _, _, _, _, _, _, _, rfl, (HT.out).put 12 12 (.slice (some ⟨g, 0, none⟩) xs.length cap') (by decide) rfl⟩
        · obtain rfl := Option.some.inj ho
          have HT := Lib.hid hT
          clear hT hdep
          refine .inl ?_
          unfold Oper.wp
          go_simp
          exact (HI.out _ _ _).2 ⟨_, _, _, _, _, _, _, _, _, _, _, _, _, _, _, _, _, _, _, _, _, _, _, _, _, _, rfl, (HT.out).put 13 13 (.pointer (some ⟨nb, 1, none⟩)) (by decide) rfl⟩
        · obtain rfl := Option.some.inj ho
          have e13 := hT.vals _ (List.Mem.tail _ (List.Mem.tail _ (List.Mem.tail _ (List.Mem.tail _ (List.Mem.tail _ (List.Mem.tail _ (List.Mem.tail _ (List.Mem.tail _ (List.Mem.tail _ (List.Mem.tail _ (List.Mem.tail _ (List.Mem.tail _ (List.Mem.tail _ (List.Mem.head _)))))))))))))) (hdep ⟨13, .data⟩ (by simp) rfl)
          dsimp only at e13
          subst e13
          have hS := hT.at0 14 hd (by decide)
          have l0 := (hS.cell (p := ⟨nb, 1, none⟩) hnl).trans c1
          have HT := Lib.hid hT
          clear hT hdep
          clear hS
          refine .inl ?_
          unfold Oper.wp
          go_simp
          exact (HI.out _ _ _).2 ⟨_, _, _, _, _, _, _, _, _, _, _, _, _, _, _, _, _, _, _, _, _, _, _, _, _, _, rfl, (HT.out).put 14 14 (.int .i64 (j : Nat)) (by decide) rfl⟩
        · obtain rfl := Option.some.inj ho
          have e12 := hT.vals _ (List.Mem.tail _ (List.Mem.tail _ (List.Mem.tail _ (List.Mem.tail _ (List.Mem.tail _ (List.Mem.tail _ (List.Mem.tail _ (List.Mem.tail _ (List.Mem.tail _ (List.Mem.tail _ (List.Mem.tail _ (List.Mem.tail _ (List.Mem.head _))))))))))))) (hdep ⟨12, .data⟩ (by simp) rfl)
          dsimp only at e12
          subst e12
          have e14 := hT.vals _ (List.Mem.tail _ (List.Mem.tail _ (List.Mem.tail _ (List.Mem.tail _ (List.Mem.tail _ (List.Mem.tail _ (List.Mem.tail _ (List.Mem.tail _ (List.Mem.tail _ (List.Mem.tail _ (List.Mem.tail _ (List.Mem.tail _ (List.Mem.tail _ (List.Mem.tail _ (List.Mem.head _))))))))))))))) (hdep ⟨14, .data⟩ (by simp) rfl)
          dsimp only at e14
          subst e14
          have HT := Lib.hid hT
          clear hT hdep
          refine .inl ?_
          unfold Oper.wp
          go_simp
          exact (HI.out _ _ _).2 ⟨_, _, _, _, _, _, _, _, _, _, _, _, _, _, _, _, _, _, _, _, _, _, _, _, _, _, rfl, (HT.out).put 15 15 (.pointer (some ⟨g, j * 2, none⟩)) (by decide) rfl⟩
        · obtain rfl := Option.some.inj ho
          have e15 := hT.vals _ (List.Mem.tail _ (List.Mem.tail _ (List.Mem.tail _ (List.Mem.tail _ (List.Mem.tail _ (List.Mem.tail _ (List.Mem.tail _ (List.Mem.tail _ (List.Mem.tail _ (List.Mem.tail _ (List.Mem.tail _ (List.Mem.tail _ (List.Mem.tail _ (List.Mem.tail _ (List.Mem.tail _ (List.Mem.head _)))))))))))))))) (hdep ⟨15, .data⟩ (by simp) rfl)
          dsimp only at e15
          subst e15
          have hS := hT.at0 16 hd (by decide)
          have l0 := (hS.cell (p := ⟨g, j * 2, none⟩) hgl).trans cy1
          have l1 := (hS.cell (p := ⟨g, j * 2 + 1, none⟩) hgl).trans cy2
          have HT := Lib.hid hT
          clear hT hdep
          clear hS
          refine .inl ?_
          unfold Oper.wp
          go_simp
          exact (HI.out _ _ _).2 ⟨_, _, _, _, _, _, _, _, _, _, _, _, _, _, _, _, _, _, _, _, _, _, _, _, _, _, rfl, (HT.out).put 16 16 (.agg #[.string y1, .int .i64 y2]) (by decide) rfl⟩
        · obtain rfl := Option.some.inj ho
          have HT := Lib.hid hT
          clear hT hdep
          refine .inl ?_
          unfold Oper.wp
          go_simp
          exact (HI.out _ _ _).2 ⟨_, _, _, _, _, _, _, _, _, _, _, _, _, _, _, _, _, _, _, _, _, _, _, _, _, _, rfl, (HT.out).put 17 17 (.pointer (some ⟨p, 0, none⟩)) (by decide) rfl⟩
        · obtain rfl := Option.some.inj ho
          have e17 := hT.vals _ (List.Mem.tail _ (List.Mem.tail _ (List.Mem.tail _ (List.Mem.tail _ (List.Mem.tail _ (List.Mem.tail _ (List.Mem.tail _ (List.Mem.tail _ (List.Mem.tail _ (List.Mem.tail _ (List.Mem.tail _ (List.Mem.tail _ (List.Mem.tail _ (List.Mem.tail _ (List.Mem.tail _ (List.Mem.tail _ (List.Mem.tail _ (List.Mem.head _)))))))))))))))))) (hdep ⟨17, .data⟩ (by simp) rfl)
          dsimp only at e17
          subst e17
          have HT := Lib.hid hT
          clear hT hdep
          refine .inl ?_
          unfold Oper.wp
          go_simp
          exact (HI.out _ _ _).2 ⟨_, _, _, _, _, _, _, _, _, _, _, _, _, _, _, _, _, _, _, _, _, _, _, _, _, _, rfl, (HT.out).put 18 18 (.pointer (some ⟨p, 0, none⟩)) (by decide) rfl⟩
        · obtain rfl := Option.some.inj ho
          have e18 := hT.vals _ (List.Mem.tail _ (List.Mem.tail _ (List.Mem.tail _ (List.Mem.tail _ (List.Mem.tail _ (List.Mem.tail _ (List.Mem.tail _ (List.Mem.tail _ (List.Mem.tail _ (List.Mem.tail _ (List.Mem.tail _ (List.Mem.tail _ (List.Mem.tail _ (List.Mem.tail _ (List.Mem.tail _ (List.Mem.tail _ (List.Mem.tail _ (List.Mem.tail _ (List.Mem.head _))))))))))))))))))) (hdep ⟨18, .data⟩ (by simp) rfl)
          dsimp only at e18
          subst e18
          have hS := hT.at0 19 hd (by decide)
          have l0 := (hS.cell (p := ⟨p, 0, none⟩) hpl).trans c9
          have HT := Lib.hid hT
          clear hT hdep
          clear hS
          refine .inl ?_
          unfold Oper.wp
          go_simp
          exact (HI.out _ _ _).2 ⟨_, _, _, _, _, _, _, _, _, _, _, _, _, _, _, _, _, _, _, _, _, _, _, _, _, _, rfl, (HT.out).put 19 19 (.slice (some ⟨g, 0, none⟩) xs.length cap') (by decide) rfl⟩
        · obtain rfl := Option.some.inj ho
          have HT := Lib.hid hT
          clear hT hdep
          refine .inl ?_
          unfold Oper.wp
          go_simp
          exact (HI.out _ _ _).2 ⟨_, _, _, _, _, _, _, _, _, _, _, _, _, _, _, _, _, _, _, _, _, _, _, _, _, _, rfl, (HT.out).put 20 20 (.pointer (some ⟨nb, 0, none⟩)) (by decide) rfl⟩
        · obtain rfl := Option.some.inj ho
          have e20 := hT.vals _ (List.Mem.tail _ (List.Mem.tail _ (List.Mem.tail _ (List.Mem.tail _ (List.Mem.tail _ (List.Mem.tail _ (List.Mem.tail _ (List.Mem.tail _ (List.Mem.tail _ (List.Mem.tail _ (List.Mem.tail _ (List.Mem.tail _ (List.Mem.tail _ (List.Mem.tail _ (List.Mem.tail _ (List.Mem.tail _ (List.Mem.tail _ (List.Mem.tail _ (List.Mem.tail _ (List.Mem.tail _ (List.Mem.head _))))))))))))))))))))) (hdep ⟨20, .data⟩ (by simp) rfl)
          dsimp only at e20
          subst e20
          have hS := hT.any (fun w' => w'.cell? ⟨nb, 0, none⟩ = some (.int .i64 (i : Nat))) HB0.out HB1.out HB2.out
          have l0 := hS
          have HT := Lib.hid hT
          clear hT hdep
          clear hS
          refine .inl ?_
          unfold Oper.wp
          go_simp
          exact (HI.out _ _ _).2 ⟨_, _, _, _, _, _, _, _, _, _, _, _, _, _, _, _, _, _, _, _, _, _, _, _, _, _, rfl, (HT.out).put 21 21 (.int .i64 (i : Nat)) (by decide) rfl⟩
        · obtain rfl := Option.some.inj ho
          have e19 := hT.vals _ (List.Mem.tail _ (List.Mem.tail _ (List.Mem.tail _ (List.Mem.tail _ (List.Mem.tail _ (List.Mem.tail _ (List.Mem.tail _ (List.Mem.tail _ (List.Mem.tail _ (List.Mem.tail _ (List.Mem.tail _ (List.Mem.tail _ (List.Mem.tail _ (List.Mem.tail _ (List.Mem.tail _ (List.Mem.tail _ (List.Mem.tail _ (List.Mem.tail _ (List.Mem.tail _ (List.Mem.head _)))))))))))))))))))) (hdep ⟨19, .data⟩ (by simp) rfl)
          dsimp only at e19
          subst e19
          have e21 := hT.vals _ (List.Mem.tail _ (List.Mem.tail _ (List.Mem.tail _ (List.Mem.tail _ (List.Mem.tail _ (List.Mem.tail _ (List.Mem.tail _ (List.Mem.tail _ (List.Mem.tail _ (List.Mem.tail _ (List.Mem.tail _ (List.Mem.tail _ (List.Mem.tail _ (List.Mem.tail _ (List.Mem.tail _ (List.Mem.tail _ (List.Mem.tail _ (List.Mem.tail _ (List.Mem.tail _ (List.Mem.tail _ (List.Mem.tail _ (List.Mem.head _)))))))))))))))))))))) (hdep ⟨21, .data⟩ (by simp) rfl)
          dsimp only at e21
          subst e21
          have HT := Lib.hid hT
          clear hT hdep
          refine .inl ?_
          unfold Oper.wp
          go_simp
          exact (HI.out _ _ _).2 ⟨_, _, _, _, _, _, _, _, _, _, _, _, _, _, _, _, _, _, _, _, _, _, _, _, _, _, rfl, (HT.out).put 22 22 (.pointer (some ⟨g, i * 2, none⟩)) (by decide) rfl⟩
        · obtain rfl := Option.some.inj ho
          have e22 := hT.vals _ (List.Mem.tail _ (List.Mem.tail _ (List.Mem.tail _ (List.Mem.tail _ (List.Mem.tail _ (List.Mem.tail _ (List.Mem.tail _ (List.Mem.tail _ (List.Mem.tail _ (List.Mem.tail _ (List.Mem.tail _ (List.Mem.tail _ (List.Mem.tail _ (List.Mem.tail _ (List.Mem.tail _ (List.Mem.tail _ (List.Mem.tail _ (List.Mem.tail _ (List.Mem.tail _ (List.Mem.tail _ (List.Mem.tail _ (List.Mem.tail _ (List.Mem.head _))))))))))))))))))))))) (hdep ⟨22, .data⟩ (by simp) rfl)
          dsimp only at e22
          subst e22
          have hS := hT.at0 23 hd (by decide)
          have l0 := (hS.cell (p := ⟨g, i * 2, none⟩) hgl).trans cx1
          have l1 := (hS.cell (p := ⟨g, i * 2 + 1, none⟩) hgl).trans cx2
          have HT := Lib.hid hT
          clear hT hdep
          clear hS
          refine .inl ?_
          unfold Oper.wp
          go_simp
          exact (HI.out _ _ _).2 ⟨_, _, _, _, _, _, _, _, _, _, _, _, _, _, _, _, _, _, _, _, _, _, _, _, _, _, rfl, (HT.out).put 23 23 (.agg #[.string x1, .int .i64 x2]) (by decide) rfl⟩
        · obtain rfl := Option.some.inj ho
          have e2 := hT.vals _ (List.Mem.tail _ (List.Mem.tail _ (List.Mem.head _))) (hdep ⟨2, .data⟩ (by simp) rfl)
          dsimp only at e2
          subst e2
          have e4 := hT.vals _ (List.Mem.tail _ (List.Mem.tail _ (List.Mem.tail _ (List.Mem.tail _ (List.Mem.head _))))) (hdep ⟨4, .data⟩ (by simp) rfl)
          dsimp only at e4
          subst e4
          have HT := Lib.hid hT
          clear hT hdep
          refine .inl ?_
          unfold Oper.wp
          go_simp
          exact (HI.out _ _ _).2 ⟨_, _, _, _, _, _, _, _, _, _, _, _, _, _, _, _, _, _, _, _, _, _, _, _, _, _, rfl, (HT.out).put 24 24 (.pointer (some ⟨g, i * 2, none⟩)) (by decide) rfl⟩
        · obtain rfl := Option.some.inj ho
          have e16 := hT.vals _ (List.Mem.tail _ (List.Mem.tail _ (List.Mem.tail _ (List.Mem.tail _ (List.Mem.tail _ (List.Mem.tail _ (List.Mem.tail _ (List.Mem.tail _ (List.Mem.tail _ (List.Mem.tail _ (List.Mem.tail _ (List.Mem.tail _ (List.Mem.tail _ (List.Mem.tail _ (List.Mem.tail _ (List.Mem.tail _ (List.Mem.head _))))))))))))))))) (hdep ⟨16, .data⟩ (by simp) rfl)
          dsimp only at e16
          subst e16
          have e24 := hT.vals _ (List.Mem.tail _ (List.Mem.tail _ (List.Mem.tail _ (List.Mem.tail _ (List.Mem.tail _ (List.Mem.tail _ (List.Mem.tail _ (List.Mem.tail _ (List.Mem.tail _ (List.Mem.tail _ (List.Mem.tail _ (List.Mem.tail _ (List.Mem.tail _ (List.Mem.tail _ (List.Mem.tail _ (List.Mem.tail _ (List.Mem.tail _ (List.Mem.tail _ (List.Mem.tail _ (List.Mem.tail _ (List.Mem.tail _ (List.Mem.tail _ (List.Mem.tail _ (List.Mem.tail _ (List.Mem.head _))))))))))))))))))))))))) (hdep ⟨24, .data⟩ (by simp) rfl)
          dsimp only at e24
          subst e24
          have hpre : ∀ e ∈ [0, 1, 2, 3, 4, 7, 10, 11, 12, 13, 14, 15, 16, 19, 23, 24], dn e = true := by
            intro e he
            simp only [List.mem_cons, List.not_mem_nil, or_false] at he
            rcases he with rfl | rfl | rfl | rfl | rfl | rfl | rfl | rfl | rfl | rfl | rfl | rfl | rfl | rfl | rfl | rfl
            · exact hdep ⟨0, .phase⟩ (by simp) rfl
            · exact hdep ⟨1, .phase⟩ (by simp) rfl
            · exact hdep ⟨2, .phase⟩ (by simp) rfl
            · exact hdep ⟨3, .phase⟩ (by simp) rfl
            · exact hdep ⟨4, .phase⟩ (by simp) rfl
            · exact hdep ⟨7, .phase⟩ (by simp) rfl
            · exact hdep ⟨10, .phase⟩ (by simp) rfl
            · exact hdep ⟨11, .phase⟩ (by simp) rfl
            · exact hdep ⟨12, .phase⟩ (by simp) rfl
            · exact hdep ⟨13, .phase⟩ (by simp) rfl
            · exact hdep ⟨14, .phase⟩ (by simp) rfl
            · exact hdep ⟨15, .phase⟩ (by simp) rfl
            · exact hdep ⟨16, .data⟩ (by simp) rfl
            · exact hdep ⟨19, .phase⟩ (by simp) rfl
            · exact hdep ⟨23, .phase⟩ (by simp) rfl
            · exact hdep ⟨24, .data⟩ (by simp) rfl
          have hS := hT.at0 25 hd (by decide)
          obtain ⟨⟨l0, l1, f0, f1⟩, hs1⟩ := H1.out _ hS
          have hnew := Lib.hid hs1
          clear hs1
          have HT := Lib.hid hT
          clear hT hdep hS
          refine .inl ?_
          unfold Oper.wp
          go_simp
          exact (HI.out _ _ _).2 ⟨_, _, _, _, _, _, _, _, _, _, _, _, _, _, _, _, _, _, _, _, _, _, _, _, _, _, rfl, HT.out.fst hd (by decide) hpre rfl hnew.out⟩
        · obtain rfl := Option.some.inj ho
          have e7 := hT.vals _ (List.Mem.tail _ (List.Mem.tail _ (List.Mem.tail _ (List.Mem.tail _ (List.Mem.tail _ (List.Mem.tail _ (List.Mem.tail _ (List.Mem.head _)))))))) (hdep ⟨7, .data⟩ (by simp) rfl)
          dsimp only at e7
          subst e7
          have e9 := hT.vals _ (List.Mem.tail _ (List.Mem.tail _ (List.Mem.tail _ (List.Mem.tail _ (List.Mem.tail _ (List.Mem.tail _ (List.Mem.tail _ (List.Mem.tail _ (List.Mem.tail _ (List.Mem.head _)))))))))) (hdep ⟨9, .data⟩ (by simp) rfl)
          dsimp only at e9
          subst e9
          have HT := Lib.hid hT
          clear hT hdep
          refine .inl ?_
          unfold Oper.wp
          go_simp
          exact (HI.out _ _ _).2 ⟨_, _, _, _, _, _, _, _, _, _, _, _, _, _, _, _, _, _, _, _, _, _, _, _, _, _, rfl, (HT.out).put 26 25 (.pointer (some ⟨g, j * 2, none⟩)) (by decide) rfl⟩
        · obtain rfl := Option.some.inj ho
          have e23 := hT.vals _ (List.Mem.tail _ (List.Mem.tail _ (List.Mem.tail _ (List.Mem.tail _ (List.Mem.tail _ (List.Mem.tail _ (List.Mem.tail _ (List.Mem.tail _ (List.Mem.tail _ (List.Mem.tail _ (List.Mem.tail _ (List.Mem.tail _ (List.Mem.tail _ (List.Mem.tail _ (List.Mem.tail _ (List.Mem.tail _ (List.Mem.tail _ (List.Mem.tail _ (List.Mem.tail _ (List.Mem.tail _ (List.Mem.tail _ (List.Mem.tail _ (List.Mem.tail _ (List.Mem.head _)))))))))))))))))))))))) (hdep ⟨23, .data⟩ (by simp) rfl)
          dsimp only at e23
          subst e23
          have e26 := hT.vals _ (List.Mem.tail _ (List.Mem.tail _ (List.Mem.tail _ (List.Mem.tail _ (List.Mem.tail _ (List.Mem.tail _ (List.Mem.tail _ (List.Mem.tail _ (List.Mem.tail _ (List.Mem.tail _ (List.Mem.tail _ (List.Mem.tail _ (List.Mem.tail _ (List.Mem.tail _ (List.Mem.tail _ (List.Mem.tail _ (List.Mem.tail _ (List.Mem.tail _ (List.Mem.tail _ (List.Mem.tail _ (List.Mem.tail _ (List.Mem.tail _ (List.Mem.tail _ (List.Mem.tail _ (List.Mem.tail _ (List.Mem.head _)))))))))))))))))))))))))) (hdep ⟨26, .data⟩ (by simp) rfl)
          dsimp only at e26
          subst e26
          have hi1 := hdep ⟨25, .chain⟩ (by simp) rfl
          have hS := hT.at1 hd hi1
          obtain ⟨⟨l0, l1, f0, f1⟩, hs1⟩ := H2.out _ hS
          have hnew := Lib.hid hs1
          clear hs1
          have HT := Lib.hid hT
          clear hT hdep hS
          refine .inl ?_
          unfold Oper.wp
          go_simp
          exact (HI.out _ _ _).2 ⟨_, _, _, _, _, _, _, _, _, _, _, _, _, _, _, _, _, _, _, _, _, _, _, _, _, _, rfl, HT.out.snd (by decide) hi1 rfl hnew.out⟩
        · cases ho
      · intro dn ac wc hd hIn
        obtain ⟨s14, s15, s16, s17, s18, s19, s20, s21, s22, s23, s24, s25, s26, s27, s28, s29, s30, s31, s32, s33, s34, s35, s36, s37, s38, s39, rfl, hT⟩ := (HI.out _ _ _).1 hIn
        have hF := Lib.hid (hT.done (hd 27 (by decide)))
        clear HI hIn hT hd
        go_end0
        exact ⟨rfl, by rw [HS.out]; exact HF.out _ hF.out⟩
    · rw [decide_eq_false (show ¬ (0 ≤ xb ∧ xb < (xs.length : Int)) from hj)] at hq2
      have HS : Hid (swapL ⟨xw, xa, xb, xc⟩ xs = xs) := by show _ = _; unfold swapL; rw [if_neg (fun h => hj h.2)]
      clear h l9
      go_enter Tryd.func32, Tryd.ntmps32
      go_wp2_with (first | (go_at_call 41; (with_reducible refine hq1.mono ?_); rintro e w1 ⟨rfl, h9⟩; subst h9; clear hq1) | (go_at_call 41; (with_reducible refine hq2.mono ?_); rintro e w1 ⟨rfl, h9⟩; subst h9; clear hq2))
      go_end0
      exact ⟨rfl, by rw [HS.out]; exact Dd.same H.out hb1⟩
  · rw [decide_eq_false (show ¬ (0 ≤ xa ∧ xa < (xs.length : Int)) from hi)] at hq1
    have HS : Hid (swapL ⟨xw, xa, xb, xc⟩ xs = xs) := by show _ = _; unfold swapL; rw [if_neg (fun h => hi h.1)]
    clear h l9
    go_enter Tryd.func32, Tryd.ntmps32
    go_wp2_with (go_at_call 41; (with_reducible refine hq1.mono ?_); rintro e w1 ⟨rfl, h9⟩; subst h9; clear hq1)
    go_end0
    exact ⟨rfl, by rw [HS.out]; exact Dd.same H.out hb1⟩
end Go.Proofs.YthoemgiadadfcaaDoor
