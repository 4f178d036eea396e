/- The law KeyedRanges: its walk. -/
import Derived.Test.YthmiomncgkmnoaaDoorKeyChipsIs
import Derived.Test.YthmiomncgkmnoaaDoorKeyBands
import Derived.Test.YthmiomncgkmnoaaDoorTwoRows
import Derived.Deep.DeepCutAuto
set_option linter.unusedVariables false
set_option linter.unusedSimpArgs false
namespace Go.Proofs.YthmiomncgkmnoaaDoor
open Go.RowKit Go.Sort Sip Kd
theorem once_getD {l : List Nat} {n : Nat} (h : Once l n) (i : Nat) (hi : i < n) : l.getD i 0 < n := h.1 i hi
set_option maxRecDepth 100000 in
set_option maxHeartbeats 3200000 in
theorem keyedRanges_walk (kl : List Nat) (n : Int) (w : World) (hk : kl.length = 16) (hb : Bytes kl) (hn : (Lit.int .i64 n).wf = true) (hg : Signs w) :
    Calls Tryd.prog 12 #[.agg (keyV kl), .int .i64 n] w fun e w' => e = .returned (.bool true) ∧ Below w.heap.size w w' := by
  have h0 : Hid ((w.alloc (.cells (keyV kl) 23)).heap[w.heap.size]? = some (.cells (keyV kl) 23 (0, 0))) := heap_alloc_new w _
  have hw0 : Hid (Below w.heap.size w (w.alloc (.cells (keyV kl) 23))) := (Below.refl _ _).alloc (Nat.le_refl _) _
  have hG : Hid (Signs (w.alloc (.cells (keyV kl) 23))) := hg.below hw0.out
  have hsz := Lib.hid (size23 kl hk)
  have ha := keyAwake_is (w.alloc (.cells (keyV kl) 23)) hG.out
  have r1 := fun w hg => band_is kl hk hb n w hg
  have r2 := fun w hg => place_is kl hk hb n w hg
  have r3 := fun w hg => chips_is kl hk hb n w hg
  have r4 := fun w => frame_is n w
  have l1 : (ord kl (128 + fr n / 8) 8).getD (fr n % 8) 0 < 8 := once_getD (once_ord _ _ _ (by omega)) _ (by omega)
  have l2 : (ord kl 112 127).getD (fr n % 127) 0 < 127 := once_getD (once_ord _ _ _ (by omega)) _ (by omega)
  have l3 : ∀ i, chip (num kl 99 (fr n)) i = 1 ∨ chip (num kl 99 (fr n)) i = -1 := fun i => by unfold chip; split <;> simp
  have l4 := fr_lt n
  generalize (ord kl (128 + fr n / 8) 8).getD (fr n % 8) 0 = B at *
  generalize (ord kl 112 127).getD (fr n % 127) 0 = L at *
  generalize chip (num kl 99 (fr n)) = C at *
  generalize fr n = F at *
  have r1 := Lib.hid r1
  have r2 := Lib.hid r2
  have r3 := Lib.hid r3
  have r4 := Lib.hid r4
  have l3 := Lib.hid l3
  clear hk hb hn hg
  go_enter Tryd.func12, Tryd.ntmps12
  go_upto_region 1 with (fail)
  generalize w.alloc (.cells (keyV kl) 23) = W at *
  obtain ⟨b, hb0⟩ : ∃ b, b = w.heap.size := ⟨_, rfl⟩
  rw [← hb0] at h0
  rw [← hb0]
  clear hb0
  go_upto_region 3 with (go_at_call 26; (with_reducible refine ha.mono ?_); rintro e w1 ⟨rfl, hb1⟩; have HB1 := Lib.hid hb1; clear hb1 ha)
  have h1 : Hid (w1.heap[b]? = some (.cells (keyV kl) 23 (0, 0))) := (HB1.out.block b (Array.getElem?_eq_some_iff.1 h0.out).1).trans h0.out
  have HBW : Hid (Below w.heap.size w w1) := hw0.out.trans (HB1.out.mono hw0.out.size)
  have HG1 : Hid (Signs w1) := hG.out.below HB1.out
  have hbl : Hid (b < w1.heap.size) := (Array.getElem?_eq_some_iff.1 h1.out).1
  clear h0 hw0 hG HB1
  go_cut [5, 6, 7] (fun s5 s6 s7 wx => ∃ p : Nat, s5 = .int .i64 (B : Nat) ∧ s6 = .int .i64 (L : Nat) ∧ s7 = .pointer (some ⟨p, 0, none⟩) ∧ Hid (Below w1.heap.size w1 wx ∧ wx.heap[p]? = some (.cells (chv C) 50 (0, 0))))
  case first =>
    have hz := zero50
    obtain ⟨I, hI⟩ : ∃ I : (Nat → Bool) → Act → World → Prop, ∀ dn ac wc, I dn ac wc ↔ ∃ s5 s6 s7 s11 s12 s13 s14 s15 s16 s17 s18 s19, ac = ⟨#[.agg (keyV kl), .int .i64 n, .pointer (some ⟨b, 0, none⟩), undef, .bool false, s5, s6, s7, undef, .bool true, .bool false, s11, s12, s13, s14, s15, s16, s17, s18, s19, undef, undef, undef, undef, undef, undef, undef, undef, undef, undef, undef, undef, undef, undef, undef, undef, undef, undef, undef, undef, undef, undef, undef, undef, undef, undef, undef, undef, undef, undef, undef, undef, undef, undef, undef, undef, undef, undef], []⟩ ∧
      Two w1 wc dn [(0, .agg (keyV kl), s11), (1, .int .i64 n, s12), (2, .int .i64 (B : Nat), s13), (3, .agg (keyV kl), s14), (4, .int .i64 n, s15), (5, .int .i64 (L : Nat), s16), (6, .agg (keyV kl), s17), (7, .int .i64 n, s18), (8, .agg (chv C), s19), (10, .int .i64 (B : Nat), s5), (11, .int .i64 (L : Nat), s6)] 50 (chv fun _ => 0) (chv C) (chv C) 9 12 100 101 s7 undef := ⟨_, fun _ _ _ => Iff.rfl⟩
    have HI := Lib.hid hI
    clear hI
    refine wp_region_inv (by kernel_rfl) (by kernel_rfl) I ?_ ?_ ?_
    · exact (HI.out _ _ _).2 ⟨_, _, _, _, _, _, _, _, _, _, _, _, rfl, Two.start ..⟩
    · intro i o dn ac wc ho hd hdep hIn
      obtain ⟨s5, s6, s7, s11, s12, s13, s14, s15, s16, s17, s18, s19, rfl, hT⟩ := (HI.out _ _ _).1 hIn
      clear hIn
      rcases i with _ | _ | _ | _ | _ | _ | _ | _ | _ | _ | _ | _ | _ | i
      · obtain rfl := Option.some.inj ho
        refine .inl (wp_load_row 23 (.tmp 2) rfl b rfl 23 _ (0, 0) _ ((hT.below.block b hbl.out).trans h1.out) Tryd.underlying23 rfl hsz.out ?_)
        exact (HI.out _ _ _).2 ⟨_, _, _, _, _, _, _, _, _, _, _, _, rfl, hT.val 0 (by decide) _ (by
          intro e he hde
          simp only [List.mem_cons, List.not_mem_nil, or_false] at he
          rcases he with rfl | rfl | rfl | rfl | rfl | rfl | rfl | rfl | rfl | rfl | rfl
          · rfl
          · first | rfl | (rw [also_ne _ (show 1 ≠ 0 by decide)] at hde; exact hT.vals _ (by simp) hde)
          · first | rfl | (rw [also_ne _ (show 2 ≠ 0 by decide)] at hde; exact hT.vals _ (by simp) hde)
          · first | rfl | (rw [also_ne _ (show 3 ≠ 0 by decide)] at hde; exact hT.vals _ (by simp) hde)
          · first | rfl | (rw [also_ne _ (show 4 ≠ 0 by decide)] at hde; exact hT.vals _ (by simp) hde)
          · first | rfl | (rw [also_ne _ (show 5 ≠ 0 by decide)] at hde; exact hT.vals _ (by simp) hde)
          · first | rfl | (rw [also_ne _ (show 6 ≠ 0 by decide)] at hde; exact hT.vals _ (by simp) hde)
          · first | rfl | (rw [also_ne _ (show 7 ≠ 0 by decide)] at hde; exact hT.vals _ (by simp) hde)
          · first | rfl | (rw [also_ne _ (show 8 ≠ 0 by decide)] at hde; exact hT.vals _ (by simp) hde)
          · first | rfl | (rw [also_ne _ (show 10 ≠ 0 by decide)] at hde; exact hT.vals _ (by simp) hde)
          · first | rfl | (rw [also_ne _ (show 11 ≠ 0 by decide)] at hde; exact hT.vals _ (by simp) hde)
          ) (Below.refl _ _)⟩
      · obtain rfl := Option.some.inj ho
        refine .inl ?_
        unfold Oper.wp
        go_simp
        exact (HI.out _ _ _).2 ⟨_, _, _, _, _, _, _, _, _, _, _, _, rfl, hT.val 1 (by decide) _ (by
          intro e he hde
          simp only [List.mem_cons, List.not_mem_nil, or_false] at he
          rcases he with rfl | rfl | rfl | rfl | rfl | rfl | rfl | rfl | rfl | rfl | rfl
          · first | rfl | (rw [also_ne _ (show 0 ≠ 1 by decide)] at hde; exact hT.vals _ (by simp) hde)
          · rfl
          · first | rfl | (rw [also_ne _ (show 2 ≠ 1 by decide)] at hde; exact hT.vals _ (by simp) hde)
          · first | rfl | (rw [also_ne _ (show 3 ≠ 1 by decide)] at hde; exact hT.vals _ (by simp) hde)
          · first | rfl | (rw [also_ne _ (show 4 ≠ 1 by decide)] at hde; exact hT.vals _ (by simp) hde)
          · first | rfl | (rw [also_ne _ (show 5 ≠ 1 by decide)] at hde; exact hT.vals _ (by simp) hde)
          · first | rfl | (rw [also_ne _ (show 6 ≠ 1 by decide)] at hde; exact hT.vals _ (by simp) hde)
          · first | rfl | (rw [also_ne _ (show 7 ≠ 1 by decide)] at hde; exact hT.vals _ (by simp) hde)
          · first | rfl | (rw [also_ne _ (show 8 ≠ 1 by decide)] at hde; exact hT.vals _ (by simp) hde)
          · first | rfl | (rw [also_ne _ (show 10 ≠ 1 by decide)] at hde; exact hT.vals _ (by simp) hde)
          · first | rfl | (rw [also_ne _ (show 11 ≠ 1 by decide)] at hde; exact hT.vals _ (by simp) hde)
          ) (Below.refl _ _)⟩
      · obtain rfl := Option.some.inj ho
        have e0 := hT.vals _ (List.Mem.head _) (hdep ⟨0, .data⟩ (by simp) rfl)
        dsimp only at e0
        subst e0
        have e1 := hT.vals _ (List.Mem.tail _ (List.Mem.head _)) (hdep ⟨1, .data⟩ (by simp) rfl)
        dsimp only at e1
        subst e1
        have HT := Lib.hid hT
        have HB := Lib.hid hT.below
        have hgx := HG1.out.below HB.out
        clear hT hdep
        refine .inl ?_
        unfold Oper.wp
        go_simp
        (with_reducible refine (r1.out _ hgx).mono ?_); rintro e w1 ⟨rfl, hb1⟩
        have hT := HT.out
        exact (HI.out _ _ _).2 ⟨_, _, _, _, _, _, _, _, _, _, _, _, rfl, hT.val 2 (by decide) _ (by
          intro e he hde
          simp only [List.mem_cons, List.not_mem_nil, or_false] at he
          rcases he with rfl | rfl | rfl | rfl | rfl | rfl | rfl | rfl | rfl | rfl | rfl
          · first | rfl | (rw [also_ne _ (show 0 ≠ 2 by decide)] at hde; exact hT.vals _ (by simp) hde)
          · first | rfl | (rw [also_ne _ (show 1 ≠ 2 by decide)] at hde; exact hT.vals _ (by simp) hde)
          · rfl
          · first | rfl | (rw [also_ne _ (show 3 ≠ 2 by decide)] at hde; exact hT.vals _ (by simp) hde)
          · first | rfl | (rw [also_ne _ (show 4 ≠ 2 by decide)] at hde; exact hT.vals _ (by simp) hde)
          · first | rfl | (rw [also_ne _ (show 5 ≠ 2 by decide)] at hde; exact hT.vals _ (by simp) hde)
          · first | rfl | (rw [also_ne _ (show 6 ≠ 2 by decide)] at hde; exact hT.vals _ (by simp) hde)
          · first | rfl | (rw [also_ne _ (show 7 ≠ 2 by decide)] at hde; exact hT.vals _ (by simp) hde)
          · first | rfl | (rw [also_ne _ (show 8 ≠ 2 by decide)] at hde; exact hT.vals _ (by simp) hde)
          · first | rfl | (rw [also_ne _ (show 10 ≠ 2 by decide)] at hde; exact hT.vals _ (by simp) hde)
          · first | rfl | (rw [also_ne _ (show 11 ≠ 2 by decide)] at hde; exact hT.vals _ (by simp) hde)
          ) hb1⟩
      · obtain rfl := Option.some.inj ho
        refine .inl (wp_load_row 23 (.tmp 2) rfl b rfl 23 _ (0, 0) _ ((hT.below.block b hbl.out).trans h1.out) Tryd.underlying23 rfl hsz.out ?_)
        exact (HI.out _ _ _).2 ⟨_, _, _, _, _, _, _, _, _, _, _, _, rfl, hT.val 3 (by decide) _ (by
          intro e he hde
          simp only [List.mem_cons, List.not_mem_nil, or_false] at he
          rcases he with rfl | rfl | rfl | rfl | rfl | rfl | rfl | rfl | rfl | rfl | rfl
          · first | rfl | (rw [also_ne _ (show 0 ≠ 3 by decide)] at hde; exact hT.vals _ (by simp) hde)
          · first | rfl | (rw [also_ne _ (show 1 ≠ 3 by decide)] at hde; exact hT.vals _ (by simp) hde)
          · first | rfl | (rw [also_ne _ (show 2 ≠ 3 by decide)] at hde; exact hT.vals _ (by simp) hde)
          · rfl
          · first | rfl | (rw [also_ne _ (show 4 ≠ 3 by decide)] at hde; exact hT.vals _ (by simp) hde)
          · first | rfl | (rw [also_ne _ (show 5 ≠ 3 by decide)] at hde; exact hT.vals _ (by simp) hde)
          · first | rfl | (rw [also_ne _ (show 6 ≠ 3 by decide)] at hde; exact hT.vals _ (by simp) hde)
          · first | rfl | (rw [also_ne _ (show 7 ≠ 3 by decide)] at hde; exact hT.vals _ (by simp) hde)
          · first | rfl | (rw [also_ne _ (show 8 ≠ 3 by decide)] at hde; exact hT.vals _ (by simp) hde)
          · first | rfl | (rw [also_ne _ (show 10 ≠ 3 by decide)] at hde; exact hT.vals _ (by simp) hde)
          · first | rfl | (rw [also_ne _ (show 11 ≠ 3 by decide)] at hde; exact hT.vals _ (by simp) hde)
          ) (Below.refl _ _)⟩
      · obtain rfl := Option.some.inj ho
        refine .inl ?_
        unfold Oper.wp
        go_simp
        exact (HI.out _ _ _).2 ⟨_, _, _, _, _, _, _, _, _, _, _, _, rfl, hT.val 4 (by decide) _ (by
          intro e he hde
          simp only [List.mem_cons, List.not_mem_nil, or_false] at he
          rcases he with rfl | rfl | rfl | rfl | rfl | rfl | rfl | rfl | rfl | rfl | rfl
          · first | rfl | (rw [also_ne _ (show 0 ≠ 4 by decide)] at hde; exact hT.vals _ (by simp) hde)
          · first | rfl | (rw [also_ne _ (show 1 ≠ 4 by decide)] at hde; exact hT.vals _ (by simp) hde)
          · first | rfl | (rw [also_ne _ (show 2 ≠ 4 by decide)] at hde; exact hT.vals _ (by simp) hde)
          · first | rfl | (rw [also_ne _ (show 3 ≠ 4 by decide)] at hde; exact hT.vals _ (by simp) hde)
          · rfl
          · first | rfl | (rw [also_ne _ (show 5 ≠ 4 by decide)] at hde; exact hT.vals _ (by simp) hde)
          · first | rfl | (rw [also_ne _ (show 6 ≠ 4 by decide)] at hde; exact hT.vals _ (by simp) hde)
          · first | rfl | (rw [also_ne _ (show 7 ≠ 4 by decide)] at hde; exact hT.vals _ (by simp) hde)
          · first | rfl | (rw [also_ne _ (show 8 ≠ 4 by decide)] at hde; exact hT.vals _ (by simp) hde)
          · first | rfl | (rw [also_ne _ (show 10 ≠ 4 by decide)] at hde; exact hT.vals _ (by simp) hde)
          · first | rfl | (rw [also_ne _ (show 11 ≠ 4 by decide)] at hde; exact hT.vals _ (by simp) hde)
          ) (Below.refl _ _)⟩
      · obtain rfl := Option.some.inj ho
        have e3 := hT.vals _ (List.Mem.tail _ (List.Mem.tail _ (List.Mem.tail _ (List.Mem.head _)))) (hdep ⟨3, .data⟩ (by simp) rfl)
        dsimp only at e3
        subst e3
        have e4 := hT.vals _ (List.Mem.tail _ (List.Mem.tail _ (List.Mem.tail _ (List.Mem.tail _ (List.Mem.head _))))) (hdep ⟨4, .data⟩ (by simp) rfl)
        dsimp only at e4
        subst e4
        have HT := Lib.hid hT
        have HB := Lib.hid hT.below
        have hgx := HG1.out.below HB.out
        clear hT hdep
        refine .inl ?_
        unfold Oper.wp
        go_simp
        (with_reducible refine (r2.out _ hgx).mono ?_); rintro e w1 ⟨rfl, hb1⟩
        have hT := HT.out
        exact (HI.out _ _ _).2 ⟨_, _, _, _, _, _, _, _, _, _, _, _, rfl, hT.val 5 (by decide) _ (by
          intro e he hde
          simp only [List.mem_cons, List.not_mem_nil, or_false] at he
          rcases he with rfl | rfl | rfl | rfl | rfl | rfl | rfl | rfl | rfl | rfl | rfl
          · first | rfl | (rw [also_ne _ (show 0 ≠ 5 by decide)] at hde; exact hT.vals _ (by simp) hde)
          · first | rfl | (rw [also_ne _ (show 1 ≠ 5 by decide)] at hde; exact hT.vals _ (by simp) hde)
          · first | rfl | (rw [also_ne _ (show 2 ≠ 5 by decide)] at hde; exact hT.vals _ (by simp) hde)
          · first | rfl | (rw [also_ne _ (show 3 ≠ 5 by decide)] at hde; exact hT.vals _ (by simp) hde)
          · first | rfl | (rw [also_ne _ (show 4 ≠ 5 by decide)] at hde; exact hT.vals _ (by simp) hde)
          · rfl
          · first | rfl | (rw [also_ne _ (show 6 ≠ 5 by decide)] at hde; exact hT.vals _ (by simp) hde)
          · first | rfl | (rw [also_ne _ (show 7 ≠ 5 by decide)] at hde; exact hT.vals _ (by simp) hde)
          · first | rfl | (rw [also_ne _ (show 8 ≠ 5 by decide)] at hde; exact hT.vals _ (by simp) hde)
          · first | rfl | (rw [also_ne _ (show 10 ≠ 5 by decide)] at hde; exact hT.vals _ (by simp) hde)
          · first | rfl | (rw [also_ne _ (show 11 ≠ 5 by decide)] at hde; exact hT.vals _ (by simp) hde)
          ) hb1⟩
      · obtain rfl := Option.some.inj ho
        refine .inl (wp_load_row 23 (.tmp 2) rfl b rfl 23 _ (0, 0) _ ((hT.below.block b hbl.out).trans h1.out) Tryd.underlying23 rfl hsz.out ?_)
        exact (HI.out _ _ _).2 ⟨_, _, _, _, _, _, _, _, _, _, _, _, rfl, hT.val 6 (by decide) _ (by
          intro e he hde
          simp only [List.mem_cons, List.not_mem_nil, or_false] at he
          rcases he with rfl | rfl | rfl | rfl | rfl | rfl | rfl | rfl | rfl | rfl | rfl
          · first | rfl | (rw [also_ne _ (show 0 ≠ 6 by decide)] at hde; exact hT.vals _ (by simp) hde)
          · first | rfl | (rw [also_ne _ (show 1 ≠ 6 by decide)] at hde; exact hT.vals _ (by simp) hde)
          · first | rfl | (rw [also_ne _ (show 2 ≠ 6 by decide)] at hde; exact hT.vals _ (by simp) hde)
          · first | rfl | (rw [also_ne _ (show 3 ≠ 6 by decide)] at hde; exact hT.vals _ (by simp) hde)
          · first | rfl | (rw [also_ne _ (show 4 ≠ 6 by decide)] at hde; exact hT.vals _ (by simp) hde)
          · first | rfl | (rw [also_ne _ (show 5 ≠ 6 by decide)] at hde; exact hT.vals _ (by simp) hde)
          · rfl
          · first | rfl | (rw [also_ne _ (show 7 ≠ 6 by decide)] at hde; exact hT.vals _ (by simp) hde)
          · first | rfl | (rw [also_ne _ (show 8 ≠ 6 by decide)] at hde; exact hT.vals _ (by simp) hde)
          · first | rfl | (rw [also_ne _ (show 10 ≠ 6 by decide)] at hde; exact hT.vals _ (by simp) hde)
          · first | rfl | (rw [also_ne _ (show 11 ≠ 6 by decide)] at hde; exact hT.vals _ (by simp) hde)
          ) (Below.refl _ _)⟩
      · obtain rfl := Option.some.inj ho
        refine .inl ?_
        unfold Oper.wp
        go_simp
        exact (HI.out _ _ _).2 ⟨_, _, _, _, _, _, _, _, _, _, _, _, rfl, hT.val 7 (by decide) _ (by
          intro e he hde
          simp only [List.mem_cons, List.not_mem_nil, or_false] at he
          rcases he with rfl | rfl | rfl | rfl | rfl | rfl | rfl | rfl | rfl | rfl | rfl
          · first | rfl | (rw [also_ne _ (show 0 ≠ 7 by decide)] at hde; exact hT.vals _ (by simp) hde)
          · first | rfl | (rw [also_ne _ (show 1 ≠ 7 by decide)] at hde; exact hT.vals _ (by simp) hde)
          · first | rfl | (rw [also_ne _ (show 2 ≠ 7 by decide)] at hde; exact hT.vals _ (by simp) hde)
          · first | rfl | (rw [also_ne _ (show 3 ≠ 7 by decide)] at hde; exact hT.vals _ (by simp) hde)
          · first | rfl | (rw [also_ne _ (show 4 ≠ 7 by decide)] at hde; exact hT.vals _ (by simp) hde)
          · first | rfl | (rw [also_ne _ (show 5 ≠ 7 by decide)] at hde; exact hT.vals _ (by simp) hde)
          · first | rfl | (rw [also_ne _ (show 6 ≠ 7 by decide)] at hde; exact hT.vals _ (by simp) hde)
          · rfl
          · first | rfl | (rw [also_ne _ (show 8 ≠ 7 by decide)] at hde; exact hT.vals _ (by simp) hde)
          · first | rfl | (rw [also_ne _ (show 10 ≠ 7 by decide)] at hde; exact hT.vals _ (by simp) hde)
          · first | rfl | (rw [also_ne _ (show 11 ≠ 7 by decide)] at hde; exact hT.vals _ (by simp) hde)
          ) (Below.refl _ _)⟩
      · obtain rfl := Option.some.inj ho
        have e6 := hT.vals _ (List.Mem.tail _ (List.Mem.tail _ (List.Mem.tail _ (List.Mem.tail _ (List.Mem.tail _ (List.Mem.tail _ (List.Mem.head _))))))) (hdep ⟨6, .data⟩ (by simp) rfl)
        dsimp only at e6
        subst e6
        have e7 := hT.vals _ (List.Mem.tail _ (List.Mem.tail _ (List.Mem.tail _ (List.Mem.tail _ (List.Mem.tail _ (List.Mem.tail _ (List.Mem.tail _ (List.Mem.head _)))))))) (hdep ⟨7, .data⟩ (by simp) rfl)
        dsimp only at e7
        subst e7
        have HT := Lib.hid hT
        have HB := Lib.hid hT.below
        have hgx := HG1.out.below HB.out
        clear hT hdep
        refine .inl ?_
        unfold Oper.wp
        go_simp
        (with_reducible refine (r3.out _ hgx).mono ?_); rintro e w1 ⟨rfl, hb1⟩
        have hT := HT.out
        exact (HI.out _ _ _).2 ⟨_, _, _, _, _, _, _, _, _, _, _, _, rfl, hT.val 8 (by decide) _ (by
          intro e he hde
          simp only [List.mem_cons, List.not_mem_nil, or_false] at he
          rcases he with rfl | rfl | rfl | rfl | rfl | rfl | rfl | rfl | rfl | rfl | rfl
          · first | rfl | (rw [also_ne _ (show 0 ≠ 8 by decide)] at hde; exact hT.vals _ (by simp) hde)
          · first | rfl | (rw [also_ne _ (show 1 ≠ 8 by decide)] at hde; exact hT.vals _ (by simp) hde)
          · first | rfl | (rw [also_ne _ (show 2 ≠ 8 by decide)] at hde; exact hT.vals _ (by simp) hde)
          · first | rfl | (rw [also_ne _ (show 3 ≠ 8 by decide)] at hde; exact hT.vals _ (by simp) hde)
          · first | rfl | (rw [also_ne _ (show 4 ≠ 8 by decide)] at hde; exact hT.vals _ (by simp) hde)
          · first | rfl | (rw [also_ne _ (show 5 ≠ 8 by decide)] at hde; exact hT.vals _ (by simp) hde)
          · first | rfl | (rw [also_ne _ (show 6 ≠ 8 by decide)] at hde; exact hT.vals _ (by simp) hde)
          · first | rfl | (rw [also_ne _ (show 7 ≠ 8 by decide)] at hde; exact hT.vals _ (by simp) hde)
          · rfl
          · first | rfl | (rw [also_ne _ (show 10 ≠ 8 by decide)] at hde; exact hT.vals _ (by simp) hde)
          · first | rfl | (rw [also_ne _ (show 11 ≠ 8 by decide)] at hde; exact hT.vals _ (by simp) hde)
          ) hb1⟩
      · obtain rfl := Option.some.inj ho
        have hT' := (HI.out _ _ _).2 ⟨_, _, _, _, _, _, _, _, _, _, _, _, rfl, hT.make1 (W := w1) hd (by decide) rfl⟩
        refine .inl ?_
        unfold Oper.wp
        go_simp
        exact hT'
      · obtain rfl := Option.some.inj ho
        have e2 := hT.vals _ (List.Mem.tail _ (List.Mem.tail _ (List.Mem.head _))) (hdep ⟨2, .data⟩ (by simp) rfl)
        dsimp only at e2
        subst e2
        refine .inl ?_
        unfold Oper.wp
        go_simp
        exact (HI.out _ _ _).2 ⟨_, _, _, _, _, _, _, _, _, _, _, _, rfl, hT.val 10 (by decide) _ (by
          intro e he hde
          simp only [List.mem_cons, List.not_mem_nil, or_false] at he
          rcases he with rfl | rfl | rfl | rfl | rfl | rfl | rfl | rfl | rfl | rfl | rfl
          · first | rfl | (rw [also_ne _ (show 0 ≠ 10 by decide)] at hde; exact hT.vals _ (by simp) hde)
          · first | rfl | (rw [also_ne _ (show 1 ≠ 10 by decide)] at hde; exact hT.vals _ (by simp) hde)
          · first | rfl | (rw [also_ne _ (show 2 ≠ 10 by decide)] at hde; exact hT.vals _ (by simp) hde)
          · first | rfl | (rw [also_ne _ (show 3 ≠ 10 by decide)] at hde; exact hT.vals _ (by simp) hde)
          · first | rfl | (rw [also_ne _ (show 4 ≠ 10 by decide)] at hde; exact hT.vals _ (by simp) hde)
          · first | rfl | (rw [also_ne _ (show 5 ≠ 10 by decide)] at hde; exact hT.vals _ (by simp) hde)
          · first | rfl | (rw [also_ne _ (show 6 ≠ 10 by decide)] at hde; exact hT.vals _ (by simp) hde)
          · first | rfl | (rw [also_ne _ (show 7 ≠ 10 by decide)] at hde; exact hT.vals _ (by simp) hde)
          · first | rfl | (rw [also_ne _ (show 8 ≠ 10 by decide)] at hde; exact hT.vals _ (by simp) hde)
          · rfl
          · first | rfl | (rw [also_ne _ (show 11 ≠ 10 by decide)] at hde; exact hT.vals _ (by simp) hde)
          ) (Below.refl _ _)⟩
      · obtain rfl := Option.some.inj ho
        have e5 := hT.vals _ (List.Mem.tail _ (List.Mem.tail _ (List.Mem.tail _ (List.Mem.tail _ (List.Mem.tail _ (List.Mem.head _)))))) (hdep ⟨5, .data⟩ (by simp) rfl)
        dsimp only at e5
        subst e5
        refine .inl ?_
        unfold Oper.wp
        go_simp
        exact (HI.out _ _ _).2 ⟨_, _, _, _, _, _, _, _, _, _, _, _, rfl, hT.val 11 (by decide) _ (by
          intro e he hde
          simp only [List.mem_cons, List.not_mem_nil, or_false] at he
          rcases he with rfl | rfl | rfl | rfl | rfl | rfl | rfl | rfl | rfl | rfl | rfl
          · first | rfl | (rw [also_ne _ (show 0 ≠ 11 by decide)] at hde; exact hT.vals _ (by simp) hde)
          · first | rfl | (rw [also_ne _ (show 1 ≠ 11 by decide)] at hde; exact hT.vals _ (by simp) hde)
          · first | rfl | (rw [also_ne _ (show 2 ≠ 11 by decide)] at hde; exact hT.vals _ (by simp) hde)
          · first | rfl | (rw [also_ne _ (show 3 ≠ 11 by decide)] at hde; exact hT.vals _ (by simp) hde)
          · first | rfl | (rw [also_ne _ (show 4 ≠ 11 by decide)] at hde; exact hT.vals _ (by simp) hde)
          · first | rfl | (rw [also_ne _ (show 5 ≠ 11 by decide)] at hde; exact hT.vals _ (by simp) hde)
          · first | rfl | (rw [also_ne _ (show 6 ≠ 11 by decide)] at hde; exact hT.vals _ (by simp) hde)
          · first | rfl | (rw [also_ne _ (show 7 ≠ 11 by decide)] at hde; exact hT.vals _ (by simp) hde)
          · first | rfl | (rw [also_ne _ (show 8 ≠ 11 by decide)] at hde; exact hT.vals _ (by simp) hde)
          · first | rfl | (rw [also_ne _ (show 10 ≠ 11 by decide)] at hde; exact hT.vals _ (by simp) hde)
          · rfl
          ) (Below.refl _ _)⟩
      · obtain rfl := Option.some.inj ho
        have e8 := hT.vals _ (List.Mem.tail _ (List.Mem.tail _ (List.Mem.tail _ (List.Mem.tail _ (List.Mem.tail _ (List.Mem.tail _ (List.Mem.tail _ (List.Mem.tail _ (List.Mem.head _))))))))) (hdep ⟨8, .data⟩ (by simp) rfl)
        dsimp only at e8
        subst e8
        obtain ⟨p, rfl, ⟨o, ho, hz⟩, hT'⟩ := hT.fill1 (hdep ⟨9, .data⟩ (by simp) rfl) (by decide) rfl
        obtain rfl := hz hd
        refine .inl (wp_store_row 50 (.tmp 7) (.tmp 19) rfl p (chv C) rfl rfl 50 _ ho (by kernel_rfl) (by rfl) (chv_one C) ?_)
        exact (HI.out _ _ _).2 ⟨_, _, _, _, _, _, _, _, _, _, _, _, rfl, hT'⟩
      · cases ho
    · intro dn ac wc hd hIn
      obtain ⟨s5, s6, s7, s11, s12, s13, s14, s15, s16, s17, s18, s19, rfl, hT⟩ := (HI.out _ _ _).1 hIn
      obtain ⟨p, rfl, _, h4⟩ := hT.one (hd 9 (by decide))
      have h3 := hT.below
      rw [hd 12 (by decide)] at h4
      have e5 := hT.vals (10, .int .i64 (B : Nat), s5) (by simp) (hd 10 (by decide))
      have e6 := hT.vals (11, .int .i64 (L : Nat), s6) (by simp) (hd 11 (by decide))
      dsimp only at e5 e6
      subst e5
      subst e6
      clear HI hIn hT hd r1 r2 r3
      go_wp2_with fail
      go_meet
      exact ⟨p, rfl, rfl, rfl, Lib.hid ⟨h3, h4⟩⟩
  case rest =>
    obtain ⟨p, rfl, rfl, rfl, hfin⟩ := hcut
    have hfin : Hid (Below w.heap.size w wc ∧ wc.heap[p]? = some (.cells (chv C) 50 (0, 0))) := ⟨HBW.out.trans (hfin.out.1.mono HBW.out.size), hfin.out.2⟩
    clear HBW HG1 h1 hbl hsz r1 r2 r3
    have q4 := r4.out
    go_wp2
    go_loopw [8] (fun i wr => ∃ k : Nat, k ≤ 4 ∧ i = .int .i64 k ∧ Hid (Below w.heap.size w wr ∧ wr.heap[p]? = some (.cells (chv C) 50 (0, 0)))) (fun i _ => 4 - (intOf i).toNat)
    case atStart => exact ⟨0, by omega, rfl, hfin⟩
    case round =>
      clear hfin
      obtain ⟨k, hk, rfl, hA⟩ := hrel
      obtain ⟨wo, rfl⟩ : ∃ wo : World, wo = wr := ⟨_, rfl⟩
      by_cases hlt : k < 4
      · have l1 : wo.cell? ⟨p, k, none⟩ = some (.int .i64 (C k)) := (cell_of_row _ _ k _ 50 (0, 0) hA.out.2).trans (chv_get _ k hlt)
        rcases l3.out k with e | e
        · rw [e] at l1
          clear e
          go_wp2
          go_roundw
          case rel => exact ⟨k + 1, by omega, by go_num, hA⟩
          case measure => simp [intOf]; omega
        · rw [e] at l1
          clear e
          go_wp2
          go_roundw
          case rel => exact ⟨k + 1, by omega, by go_num, hA⟩
          case measure => simp [intOf]; omega
      · obtain rfl : k = 4 := by omega
        have e9 : decide ((F : Int) < 1016) = true := by simp; omega
        go_wp2_with (go_at_call 33; (with_reducible refine (q4 _).mono ?_); rintro e w8 ⟨rfl, h8⟩; subst h8)
        go_ret
        exact ⟨rfl, hA.out.1⟩
end Go.Proofs.YthmiomncgkmnoaaDoor
