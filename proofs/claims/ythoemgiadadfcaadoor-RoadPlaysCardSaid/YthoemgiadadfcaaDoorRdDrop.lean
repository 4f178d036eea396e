/- The deed that takes a packet away: its walk. -/
import Derived.Test.YthoemgiadadfcaaDoorRdDel
import Derived.Test.YthoemgiadadfcaaDoorSt2
set_option linter.unusedVariables false
set_option linter.unusedSimpArgs false
namespace Go.Proofs.YthoemgiadadfcaaDoor
open Go.RowKit Go.Sort Rd
namespace Rd
/-- Is there a packet? -/
def inn (i : Int) (n : Nat) : Prop := 0 ≤ i ∧ i < n
instance (i : Int) (n : Nat) : Decidable (inn i n) := by unfold inn; infer_instance
def dropL (x : Ac) (xs : List It) : List It := if inn x.a xs.length then xs.eraseIdx x.a.toNat else xs
end Rd
/-- What a deed leaves. -/
def Dd (w w' : World) (p : Nat) (v : Value) (xs : List It) : Prop := ∃ v', Lb w' p v' xs ∧ Keep w w' (p :: foot v) ∧ ∀ j ∈ foot v', j ∈ foot v ∨ w.heap.size ≤ j
theorem Dd.same {w w' : World} {p : Nat} {v : Value} {xs : List It} (h : Lb w p v xs) (hb : Below w.heap.size w w') : Dd w w' p v xs := ⟨v, h.below hb, Keep.of_below hb _, fun j hj => .inl hj⟩
set_option maxRecDepth 100000 in
set_option maxHeartbeats 3200000 in
theorem drop_is (p : Nat) (v : Value) (xs : List It) (x : Ac) (w : World) (h : Lb w p v xs) (hn : xs.length ≤ 100000) :
    Calls Tryd.prog 30 #[.pointer (some ⟨p, 0, none⟩), n3 x] w fun e w' => e = .returned (.tuple #[]) ∧ Dd w w' p v (dropL x xs) := by
  obtain ⟨xw, xa, xb, xc⟩ := x
  obtain ⟨a, cap, hv⟩ := h.own.shape
  have hb1 : Below w.heap.size w (w.alloc (.cells #[.int .i64 xa, .int .i64 xb, .int .i64 xc] 27)) := (Below.refl _ _).alloc (Nat.le_refl _) _
  have hn1 : (w.alloc (.cells #[.int .i64 xa, .int .i64 xb, .int .i64 xc] 27)).heap[w.heap.size]? = some (.cells #[.int .i64 xa, .int .i64 xb, .int .i64 xc] 27 (0, 0)) := heap_alloc_new w _
  have l0 : (w.alloc (.cells #[.int .i64 xa, .int .i64 xb, .int .i64 xc] 27)).cell? ⟨w.heap.size, 0, none⟩ = some (.int .i64 xa) := cell_of_row _ _ 0 _ 27 (0, 0) hn1
  have l9 := (h.below hb1).cell
  rw [hv] at l9
  have hq := has_is p a xs.length cap xa _ l9
  have H := Lib.hid h
  show Calls Tryd.prog 30 #[.pointer (some ⟨p, 0, none⟩), .agg #[.int .i64 xa, .int .i64 xb, .int .i64 xc]] w _
  by_cases hi : inn xa xs.length
  · rw [decide_eq_true (show 0 ≤ xa ∧ xa < (xs.length : Int) from hi)] at hq
    obtain ⟨i, rfl⟩ : ∃ i : Nat, xa = i := ⟨xa.toNat, by unfold inn at hi; omega⟩
    have HS : Hid (dropL ⟨xw, i, xb, xc⟩ xs = xs.eraseIdx i) := by show _ = _; unfold dropL; rw [if_pos hi]; rfl
    have hil : i < xs.length := by unfold inn at hi; omega
    obtain ⟨g, cap', hv2, hcap⟩ := h.own.form (by omega)
    rw [hv] at hv2
    obtain ⟨rfl, rfl⟩ : a = some ⟨g, 0, none⟩ ∧ cap' = cap := by injection hv2 with e1 e2 e3; exact ⟨e1, e3.symm⟩
    have HV := Lib.hid hv
    have ew : IntKind.i64.wrap ((i : Int) + 1) = (i : Int) + 1 := by rw [IntKind.wrap_i64]; omega
    clear h hv2 hv
    go_enter Tryd.func30, Tryd.ntmps30
    go_upto_region 2 with (go_at_call 41; (with_reducible refine hq.mono ?_); rintro e w1 ⟨rfl, h9⟩; subst h9; clear hq)
    obtain ⟨W1, hW1⟩ : ∃ W1, W1 = w.alloc (.cells #[.int .i64 (i : Nat), .int .i64 xb, .int .i64 xc] 27) := ⟨_, rfl⟩
    rw [← hW1] at hb1 hn1 l0 l9 ⊢
    have hpl : p < W1.heap.size := Nat.lt_of_lt_of_le H.out.lt hb1.size
    have hnl : w.heap.size < W1.heap.size := (Array.getElem?_eq_some_iff.1 hn1).1
    have c0 := l0
    have c9 := l9
    have hL1 := H.out.below hb1
    have HE : Hid (Keep w W1 [] ∧ p ∉ foot v ∧ foot v = [g]) := ⟨Keep.of_below hb1 _, H.out.out, by rw [HV.out]; rfl⟩
    have HR0 := hL1.own
    rw [HV.out] at HR0
    obtain ⟨n, hnx⟩ : ∃ n, n = xs.length := ⟨_, rfl⟩
    rw [← hnx] at HR0 hil hn hcap c9 HV l9 hi
    obtain ⟨T1, hT1⟩ : ∃ T1 : World → Prop, T1 = fun w' => Rw w' 59 2 lc (.slice (some ⟨g, 0, none⟩) (n - 1) cap') (xs.eraseIdx i) ∧ Keep W1 w' [g] := ⟨_, rfl⟩
    obtain ⟨T2, hT2⟩ : ∃ T2 : World → Prop, T2 = fun w' => Lb w' p (.slice (some ⟨g, 0, none⟩) (n - 1) cap') (xs.eraseIdx i) ∧ Keep W1 w' [p, g] := ⟨_, rfl⟩
    have HQ : Hid (∀ w', Below W1.heap.size W1 w' → Calls Tryd.prog 42 #[.slice (some ⟨g, 0, none⟩) n cap', .int .i64 i, .int .i64 ((i : Int) + 1)] w' fun e w2 => e = .returned (.slice (some ⟨g, 0, none⟩) (n - 1) cap') ∧ ((.slice (some ⟨g, 0, none⟩) (n - 1) cap' : Value) = .slice (some ⟨g, 0, none⟩) (n - 1) cap' ∧ T1 w2)) := fun w' hb => by
      have := (delete_is g n cap' i xs w' (HR0.below hb) hnx.symm hil hn)
      rw [show ((i + 1 : Nat) : Int) = (i : Int) + 1 by omega] at this
      exact this.mono fun e w2 h => ⟨h.1, rfl, by rw [hT1]; exact ⟨h.2.1, (Keep.of_below hb _).trans h.2.2⟩⟩
    have hpg : p ≠ g := fun e => HE.out.2.1 (by rw [HE.out.2.2, e]; simp)
    have hbx : W1.heap[p]? = some (.cells #[v] 55 (0, 0)) := hL1.box
    have hng : w.heap.size ≠ g := fun e => by
      have := H.out.own.lt g (by rw [HE.out.2.2]; simp)
      omega
    have hnp : w.heap.size ≠ p := fun e => by have := H.out.lt; omega
    have H2 : Hid (∀ w', T1 w' → w'.cell? ⟨p, 0, none⟩ = some v ∧ w'.frozen? ⟨p, 0, none⟩ = false ∧ T2 (w'.setCell ⟨p, 0, none⟩ (.slice (some ⟨g, 0, none⟩) (n - 1) cap'))) := fun w' h => by
      rw [hT1] at h
      obtain ⟨h1, h2⟩ := h
      have hr := (h2.block p hpl (by simpa using hpg)).trans hbx
      rw [hT2]
      refine ⟨cell_of_row _ _ 0 _ 55 (0, 0) hr, by simp [World.frozen?, hr], ⟨heap_setCell_same w' p 0 #[v] 55 _ hr, h1.keep (Keep.setCell _ _ _ [p] (by simp)) (by simp [foot_slice]; exact fun e => hpg e.symm)⟩, (h2.mono (by simp)).trans (Keep.setCell _ _ _ _ (by simp))⟩
    have HA0 : Hid (∀ w', Below W1.heap.size W1 w' → w'.cell? ⟨w.heap.size, 0, none⟩ = some (.int .i64 (i : Nat))) := fun w' h => (h.cell (p := ⟨w.heap.size, 0, none⟩) hnl).trans l0
    have HA1 : Hid (∀ (s : Value) w', s = .slice (some ⟨g, 0, none⟩) (n - 1) cap' ∧ T1 w' → w'.cell? ⟨w.heap.size, 0, none⟩ = some (.int .i64 (i : Nat))) := fun s w' h => by
      rw [hT1] at h
      exact (World.cell?_of_block (h.2.2.block _ hnl (by simpa using hng))).trans l0
    have HA2 : Hid (∀ w', T2 w' → w'.cell? ⟨w.heap.size, 0, none⟩ = some (.int .i64 (i : Nat))) := fun w' h => by
      rw [hT2] at h
      exact (World.cell?_of_block (h.2.block _ hnl (by simp [hng, hnp]))).trans l0
    have ST1 : Hid (∀ s : Value, Stays fun w' => s = .slice (some ⟨g, 0, none⟩) (n - 1) cap' ∧ T1 w') := fun s => by rw [hT1]; exact fun _ _ h hb => ⟨h.1, h.2.1.below hb, h.2.2.trans (Keep.of_below hb _)⟩
    have ST2 : Hid (Stays T2) := by rw [hT2]; exact fun _ _ h hb => ⟨h.1.below hb, h.2.trans (Keep.of_below hb _)⟩
    have HF : Hid (∀ w', T2 w' → Dd w w' p v (xs.eraseIdx i)) := fun w' h => by
      rw [hT2] at h
      refine ⟨_, h.1, ?_, fun j hj => .inl (by rw [HE.out.2.2]; exact hj)⟩
      rw [HE.out.2.2]
      exact (HE.out.1.mono (by simp)).trans h.2
    clear hW1
    generalize w.heap.size = nb at *
    clear hL1 HR0 hnx hbx hb1 hn1 l0 l9 hi hng hnp
    obtain ⟨I, hI⟩ : ∃ I : (Nat → Bool) → Act → World → Prop, ∀ dn ac wc, I dn ac wc ↔ ∃ s8 s9 s10 s11 s12 s13 s14 s15 s16 s17 s18, ac = ⟨#[.pointer (some ⟨p, 0, none⟩), .agg #[.int .i64 (i : Nat), .int .i64 xb, .int .i64 xc], undef, .pointer (some ⟨nb, 0, none⟩), .pointer (some ⟨p, 0, none⟩), .pointer (some ⟨nb, 0, none⟩), .int .i64 (i : Nat), .bool true, s8, s9, s10, s11, s12, s13, s14, s15, s16, s17, s18], []⟩ ∧
      St2 wc dn [(0, .pointer (some ⟨p, 0, none⟩), s8), (1, .pointer (some ⟨p, 0, none⟩), s9), (2, .pointer (some ⟨p, 0, none⟩), s10), (3, .slice (some ⟨g, 0, none⟩) n cap', s11), (4, .pointer (some ⟨nb, 0, none⟩), s12), (5, .int .i64 (i : Nat), s13), (6, .pointer (some ⟨nb, 0, none⟩), s14), (7, .int .i64 (i : Nat), s15), (8, .int .i64 ((i : Int) + 1), s16), (10, .pointer (some ⟨p, 0, none⟩), s18)] (fun w' => Below W1.heap.size W1 w') (fun w' => s17 = .slice (some ⟨g, 0, none⟩) (n - 1) cap' ∧ T1 w') (fun w' => T2 w') 9 11 [3, 5, 8] := ⟨_, fun _ _ _ => Iff.rfl⟩
    have HI := Lib.hid hI
    clear hI
    refine wp_region_inv (by kernel_rfl) (by kernel_rfl) I ?_ ?_ ?_
    · exact (HI.out _ _ _).2 ⟨_, _, _, _, _, _, _, _, _, _, _, rfl, St2.start _ _ _ _ _ _ _ _ (Below.refl _ _) (fun _ _ h hb => h.trans (hb.mono h.size))⟩
    · intro i o dn ac wc ho hd hdep hIn
      obtain ⟨s8, s9, s10, s11, s12, s13, s14, s15, s16, s17, s18, rfl, hT⟩ := (HI.out _ _ _).1 hIn
      clear hIn
      rcases i with _ | _ | _ | _ | _ | _ | _ | _ | _ | _ | _ | _ | i
      · obtain rfl := Option.some.inj ho
        have HT := Lib.hid hT
        clear hT hdep
        refine .inl ?_
        unfold Oper.wp
        go_simp
        exact (HI.out _ _ _).2 ⟨_, _, _, _, _, _, _, _, _, _, _, rfl, (HT.out).put 0 0 (.pointer (some ⟨p, 0, none⟩)) (by decide) rfl⟩
      · obtain rfl := Option.some.inj ho
        have HT := Lib.hid hT
        clear hT hdep
        refine .inl ?_
        unfold Oper.wp
        go_simp
        exact (HI.out _ _ _).2 ⟨_, _, _, _, _, _, _, _, _, _, _, rfl, (HT.out).put 1 1 (.pointer (some ⟨p, 0, none⟩)) (by decide) rfl⟩
      · obtain rfl := Option.some.inj ho
        have e1 := hT.vals _ (List.Mem.tail _ (List.Mem.head _)) (hdep ⟨1, .data⟩ (by simp) rfl)
        dsimp only at e1
        subst e1
        have HT := Lib.hid hT
        clear hT hdep
        refine .inl ?_
        unfold Oper.wp
        go_simp
        exact (HI.out _ _ _).2 ⟨_, _, _, _, _, _, _, _, _, _, _, rfl, (HT.out).put 2 2 (.pointer (some ⟨p, 0, none⟩)) (by decide) rfl⟩
      · obtain rfl := Option.some.inj ho
        have e2 := hT.vals _ (List.Mem.tail _ (List.Mem.tail _ (List.Mem.head _))) (hdep ⟨2, .data⟩ (by simp) rfl)
        dsimp only at e2
        subst e2
        have hS := hT.at0 3 hd (by decide)
        have l0 := (hS.cell (p := ⟨p, 0, none⟩) hpl).trans c9
        have HT := Lib.hid hT
        clear hT hdep
        clear hS
        refine .inl ?_
        unfold Oper.wp
        go_simp
        exact (HI.out _ _ _).2 ⟨_, _, _, _, _, _, _, _, _, _, _, rfl, (HT.out).put 3 3 (.slice (some ⟨g, 0, none⟩) n cap') (by decide) rfl⟩
      · obtain rfl := Option.some.inj ho
        have HT := Lib.hid hT
        clear hT hdep
        refine .inl ?_
        unfold Oper.wp
        go_simp
        exact (HI.out _ _ _).2 ⟨_, _, _, _, _, _, _, _, _, _, _, rfl, (HT.out).put 4 4 (.pointer (some ⟨nb, 0, none⟩)) (by decide) rfl⟩
      · obtain rfl := Option.some.inj ho
        have e4 := hT.vals _ (List.Mem.tail _ (List.Mem.tail _ (List.Mem.tail _ (List.Mem.tail _ (List.Mem.head _))))) (hdep ⟨4, .data⟩ (by simp) rfl)
        dsimp only at e4
        subst e4
        have hS := hT.at0 5 hd (by decide)
        have l0 := (hS.cell (p := ⟨nb, 0, none⟩) hnl).trans c0
        have HT := Lib.hid hT
        clear hT hdep
        clear hS
        refine .inl ?_
        unfold Oper.wp
        go_simp
        exact (HI.out _ _ _).2 ⟨_, _, _, _, _, _, _, _, _, _, _, rfl, (HT.out).put 5 5 (.int .i64 (i : Nat)) (by decide) rfl⟩
      · obtain rfl := Option.some.inj ho
        have HT := Lib.hid hT
        clear hT hdep
        refine .inl ?_
        unfold Oper.wp
        go_simp
        exact (HI.out _ _ _).2 ⟨_, _, _, _, _, _, _, _, _, _, _, rfl, (HT.out).put 6 6 (.pointer (some ⟨nb, 0, none⟩)) (by decide) rfl⟩
      · obtain rfl := Option.some.inj ho
        have e6 := hT.vals _ (List.Mem.tail _ (List.Mem.tail _ (List.Mem.tail _ (List.Mem.tail _ (List.Mem.tail _ (List.Mem.tail _ (List.Mem.head _))))))) (hdep ⟨6, .data⟩ (by simp) rfl)
        dsimp only at e6
        subst e6
        have hS := hT.any (fun w' => w'.cell? ⟨nb, 0, none⟩ = some (.int .i64 (i : Nat))) HA0.out (HA1.out _) HA2.out
        have l0 := hS
        have HT := Lib.hid hT
        clear hT hdep
        clear hS
        refine .inl ?_
        unfold Oper.wp
        go_simp
        exact (HI.out _ _ _).2 ⟨_, _, _, _, _, _, _, _, _, _, _, rfl, (HT.out).put 7 7 (.int .i64 (i : Nat)) (by decide) rfl⟩
      · obtain rfl := Option.some.inj ho
        have e7 := hT.vals _ (List.Mem.tail _ (List.Mem.tail _ (List.Mem.tail _ (List.Mem.tail _ (List.Mem.tail _ (List.Mem.tail _ (List.Mem.tail _ (List.Mem.head _)))))))) (hdep ⟨7, .data⟩ (by simp) rfl)
        dsimp only at e7
        subst e7
        have HT := Lib.hid hT
        clear hT hdep
        refine .inl ?_
        unfold Oper.wp
        go_simp
        exact (HI.out _ _ _).2 ⟨_, _, _, _, _, _, _, _, _, _, _, rfl, (HT.out).put 8 8 (.int .i64 ((i : Int) + 1)) (by decide) rfl⟩
      · obtain rfl := Option.some.inj ho
        have e3 := hT.vals _ (List.Mem.tail _ (List.Mem.tail _ (List.Mem.tail _ (List.Mem.head _)))) (hdep ⟨3, .data⟩ (by simp) rfl)
        dsimp only at e3
        subst e3
        have e5 := hT.vals _ (List.Mem.tail _ (List.Mem.tail _ (List.Mem.tail _ (List.Mem.tail _ (List.Mem.tail _ (List.Mem.head _)))))) (hdep ⟨5, .data⟩ (by simp) rfl)
        dsimp only at e5
        subst e5
        have e8 := hT.vals _ (List.Mem.tail _ (List.Mem.tail _ (List.Mem.tail _ (List.Mem.tail _ (List.Mem.tail _ (List.Mem.tail _ (List.Mem.tail _ (List.Mem.tail _ (List.Mem.head _))))))))) (hdep ⟨8, .data⟩ (by simp) rfl)
        dsimp only at e8
        subst e8
        have hpre : ∀ e ∈ [3, 5, 8], dn e = true := by
          intro e he
          simp only [List.mem_cons, List.not_mem_nil, or_false] at he
          rcases he with rfl | rfl | rfl
          · exact hdep ⟨3, .data⟩ (by simp) rfl
          · exact hdep ⟨5, .data⟩ (by simp) rfl
          · exact hdep ⟨8, .data⟩ (by simp) rfl
        have hS := hT.at0 9 hd (by decide)
        have hq := HQ.out _ hS
        have HT := Lib.hid hT
        clear hT hdep hS
        refine .inl ?_
        unfold Oper.wp
        go_simp
        (with_reducible refine hq.mono ?_); rintro e w1 ⟨rfl, hw1⟩
        have hnew := Lib.hid hw1
        exact (HI.out _ _ _).2 ⟨_, _, _, _, _, _, _, _, _, _, _, rfl, HT.out.fstV hd (by decide) hpre rfl hnew.out⟩
      · obtain rfl := Option.some.inj ho
        have e0 := hT.vals _ (List.Mem.head _) (hdep ⟨0, .data⟩ (by simp) rfl)
        dsimp only at e0
        subst e0
        have HT := Lib.hid hT
        clear hT hdep
        refine .inl ?_
        unfold Oper.wp
        go_simp
        exact (HI.out _ _ _).2 ⟨_, _, _, _, _, _, _, _, _, _, _, rfl, (HT.out).put 10 9 (.pointer (some ⟨p, 0, none⟩)) (by decide) rfl⟩
      · obtain rfl := Option.some.inj ho
        have e10 := hT.vals _ (List.Mem.tail _ (List.Mem.tail _ (List.Mem.tail _ (List.Mem.tail _ (List.Mem.tail _ (List.Mem.tail _ (List.Mem.tail _ (List.Mem.tail _ (List.Mem.tail _ (List.Mem.head _)))))))))) (hdep ⟨10, .data⟩ (by simp) rfl)
        dsimp only at e10
        subst e10
        have hi1 := hdep ⟨9, .data⟩ (by simp) rfl
        have hS := hT.at1 hd hi1
        have hS0 := hS
        obtain ⟨rfl, hS1⟩ := hS0
        have l0 := (H2.out _ hS1).1
        have f0 := (H2.out _ hS1).2.1
        have hnew := Lib.hid (H2.out _ hS1).2.2
        have HT := Lib.hid hT
        clear hT hdep hS
        refine .inl ?_
        unfold Oper.wp
        go_simp
        exact (HI.out _ _ _).2 ⟨_, _, _, _, _, _, _, _, _, _, _, rfl, HT.out.snd (by decide) hi1 rfl hnew.out⟩
      · cases ho
    · intro dn ac wc hd hIn
      obtain ⟨s8, s9, s10, s11, s12, s13, s14, s15, s16, s17, s18, rfl, hT⟩ := (HI.out _ _ _).1 hIn
      have hF := Lib.hid (hT.done (hd 11 (by decide)))
      clear HI hIn hT hd
      go_end0
      exact ⟨rfl, by rw [HS.out]; exact HF.out _ hF.out⟩
  · rw [decide_eq_false (show ¬ (0 ≤ xa ∧ xa < (xs.length : Int)) from hi)] at hq
    have HS : Hid (dropL ⟨xw, xa, xb, xc⟩ xs = xs) := by show _ = _; unfold dropL; rw [if_neg hi]
    clear h l9
    go_enter Tryd.func30, Tryd.ntmps30
    go_wp2_with (go_at_call 41; (with_reducible refine hq.mono ?_); rintro e w1 ⟨rfl, h9⟩; subst h9; clear hq)
    go_end0
    exact ⟨rfl, by rw [HS.out]; exact Dd.same H.out hb1⟩
end Go.Proofs.YthoemgiadadfcaaDoor
