/- The document's act on a list: the walk of ref.Do, deed by deed. -/
import Derived.Test.YthoemgiadadfcaaDoorRdRefB
set_option linter.unusedVariables false
set_option linter.unusedSimpArgs false
namespace Go.Proofs.YthoemgiadadfcaaDoor
open Go.RowKit Go.Sort Rd
attribute [local go_sem] Oper.semAt_some
set_option maxRecDepth 100000 in
set_option maxHeartbeats 3200000 in
theorem ref_swap (v : Value) (xs : List It) (xw : ByteArray) (i : Nat) (j : Nat) (xc : Int) (w : World) (h : Rr w 2 lc v xs) (hn : xs.length ≤ 1000) (hi : i < xs.length) (hk : xw = sSwap) (hj : j < xs.length) :
    Calls Tryd.prog 15 #[v, ArgA ⟨xw, i, (j : Nat), xc⟩] w (Rx w (runF (rdSwap i j xs) xs.length)) := by
  obtain ⟨p, cap, rfl, hx⟩ := h
  have HX := Lib.hid (show Rr w 2 lc (.slice p xs.length cap) xs from ⟨p, cap, rfl, hx⟩)
  clear hx
  unfold ArgA
  obtain ⟨W0, hW0⟩ : ∃ W0, W0 = w.alloc (.cells #[.string xw, .int .i64 (i : Nat), .int .i64 (j : Nat), .int .i64 xc] 29) := ⟨_, rfl⟩
  have hn1 : W0.heap[w.heap.size]? = some (.cells #[.string xw, .int .i64 (i : Nat), .int .i64 (j : Nat), .int .i64 xc] 29 (0, 0)) := by rw [hW0]; exact heap_alloc_new w _
  have hb1 : Below w.heap.size w W0 := by rw [hW0]; exact (Below.refl _ _).alloc (Nat.le_refl _) _
  have l1 : (w.alloc (.cells #[.string xw, .int .i64 (i : Nat), .int .i64 (j : Nat), .int .i64 xc] 29)).cell? ⟨w.heap.size, 1, none⟩ = some (.int .i64 (i : Nat)) := by rw [← hW0]; exact cell_of_row _ _ 1 _ 29 (0, 0) hn1
  have l2 : (w.alloc (.cells #[.string xw, .int .i64 (i : Nat), .int .i64 (j : Nat), .int .i64 xc] 29)).cell? ⟨w.heap.size, 2, none⟩ = some (.int .i64 (j : Nat)) := by rw [← hW0]; exact cell_of_row _ _ 2 _ 29 (0, 0) hn1
  have HC : Hid (∀ wr, Below (w.heap.size + 1) W0 wr → w.heap.size < wr.heap.size ∧ wr.cell? ⟨w.heap.size, 0, none⟩ = some (.string xw) ∧ wr.cell? ⟨w.heap.size, 3, none⟩ = some (.int .i64 xc) ∧ Rr wr 2 lc (.slice p xs.length cap) xs ∧ Below w.heap.size w wr) := fun wr hb => by
    have h9 := (hb.block w.heap.size (Nat.lt_succ_self _)).trans hn1
    have h8 := hb1.trans (hb.mono (Nat.le_succ _))
    exact ⟨(Array.getElem?_eq_some_iff.1 h9).1, cell_of_row _ _ 0 _ 29 (0, 0) h9, cell_of_row _ _ 3 _ 29 (0, 0) h9, HX.out.below h8, h8⟩
  have HW0 := Lib.hid hW0
  have HSZ : Hid ((Tryd.prog.info? 41).map (·.size) = some 2) := (by kernel_rfl : (Tryd.prog.info? 41).map (·.size) = some 2)
  have HS0 : Hid (W0.heap.size = w.heap.size + 1) := by show _ = _; rw [hW0]; simp
  have g0 : (xw.toList == [100, 114, 111, 112]) = false := tl_no (t := sDrop) (by rw [hk]; decide)
  have g1 : (xw.toList == [115, 119, 97, 112]) = true := tl_yes hk
  have g2 : (xw.toList == [115, 112, 111, 105, 108]) = false := tl_no (t := sSpoil) (by rw [hk]; decide)
  have g3 : (xw.toList == [116, 114, 105, 109]) = false := tl_no (t := sTrim) (by rw [hk]; decide)
  have g4 : (xw.toList == [116, 119, 105, 99, 101]) = false := tl_no (t := sTwice) (by rw [hk]; decide)
  have y1 : decide ((j : Int) < (xs.length : Int)) = true := decide_eq_true (by omega)
  have y2 : decide (j < xs.length) = true := decide_eq_true hj
  have z1 : decide ((i : Int) < 0) = false := decide_eq_false (by omega)
  have z2 : decide ((xs.length : Int) ≤ (i : Int)) = false := decide_eq_false (by omega)
  have z3 : decide (xs.length ≤ i) = false := decide_eq_false (by omega)
  clear hn1 hb1 hW0 HX hk
  go_enter Tryd.func15, Tryd.ntmps15
  go_wp2_with (go_quiet (fail))
  clear l1 l2
  go_loopw [7, 8] (fun out ix wr => ∃ k : Nat, k ≤ xs.length ∧ ix = .int .i64 k ∧ Rw wr 41 2 lc out (runF (rdSwap i j xs) k) ∧ Below (w.heap.size + 1) W0 wr ∧ ∀ j ∈ foot out, w.heap.size + 1 ≤ j) (fun _ ix _ => xs.length - (intOf ix).toNat)
  case atStart => exact ⟨0, Nat.zero_le _, rfl, Rw.nil .., by rw [HW0.out]; exact below_drewN (Below.refl _ _) _, by simp [foot_nil]⟩
  case round =>
    obtain ⟨k, hk, rfl, ho, hb, hf⟩ := hrel
    obtain ⟨hp0, a0, a3, hrr, hbw⟩ := HC.out wr hb
    have HO := Lib.hid ho
    have HB := Lib.hid hb
    have HF := Lib.hid hf
    have HBW := Lib.hid hbw
    have HRR := Lib.hid hrr
    have HLN := Lib.hid (runF_len (rdSwap i j xs) (fun n => by first | (simp [rdDrop, rdTwice, rdUpd, rdSwap, rdSame]; done) | (unfold rdDrop; split <;> simp) | (unfold rdTwice; split <;> simp)) k)
    clear ho hb hf hbw hrr
    by_cases hlt : k < xs.length
    · obtain ⟨g, o, rfl, hg, x, hx, hc⟩ := HRR.out.at_ k hlt
      obtain ⟨c0, c1⟩ := lc_cells hc
      have hxg : xs.getD k zI = x := by rw [List.getD_eq_getElem?_getD, hx]; rfl
      have HXK := Lib.hid hx
      clear hc hx
      by_cases hki : k = i
      · subst hki
        by_cases hkj : k = j
        · subst hkj
          have HBA := Lib.hid ((Below.refl wr.heap.size wr).alloc (Nat.le_refl _) (.cells #[.string x.1, .int .i64 x.2] 41))
          have HO2 := Lib.hid (HO.out.below HBA.out)
          have HBX := Lib.hid (heap_alloc_new wr (.cells #[.string x.1, .int .i64 x.2] 41))
          have HE : Hid (rdSwap k k xs k = [(x.1, x.2)]) := by show _ = _; unfold rdSwap; rw [if_pos rfl, hxg]
          clear hxg
          go_wp2_with first
            | (refine wpList_load_row rfl 41 (.tmp 9) rfl wr.heap.size rfl 41 #[.string x.1, .int .i64 x.2] (0, 0) _ HBX.out Tryd.underlying41 rfl HSZ.out ?_)
            | (at_builtin; refine append_kb (wr.heap.size + 1) (by simp) rfl _ _ 39 41 2 24 lc lc_length _ rfl (by omega) rfl Tryd.underlying39 info41 (by omega) u7 (runF (rdSwap k k xs) k) (x.1, x.2) _ rfl (lc_one _) rfl rfl HO2.out (by have := HLN.out; omega) ?_; intro g2 cap3 w2 ho2 hk2 hat; have HO9 := Lib.hid ho2; have HK9 := Lib.hid hk2; have HA9 := Lib.hid hat; have HB9 := Lib.hid (((Keep.of_below HBA.out _).trans hk2).below' HB.out (by omega) (fun j hj => HF.out j hj)); obtain ⟨hp9, a9, a39, _, _⟩ := HC.out w2 HB9.out; clear ho2 hk2 hat)
          go_roundw
          case rel =>
            have h9 : Rw w2 41 2 lc (.slice (some ⟨g2, 0, none⟩) ((runF (rdSwap k k xs) k).length + 1) cap3) (runF (rdSwap k k xs) (k + 1)) := by rw [runF_succ, HE.out]; have := HO9.out; rw [List.length_append] at this; exact this
            refine ⟨k + 1, by omega, by go_num, h9, HB9.out, fun j hj => ?_⟩
            rw [foot_slice, List.mem_singleton] at hj
            subst hj
            rcases HA9.out with h8 | h8
            · exact HF.out _ h8
            · have := HBA.out.size
              omega
          case measure => simp [intOf]; omega
        · obtain ⟨n1, n2⟩ := ne_facts hkj
          obtain ⟨g', o', e9, hg', y, hy, hcy⟩ := HRR.out.at_ j hj
          cases e9
          obtain ⟨cy0, cy1⟩ := lc_cells hcy
          have hyg : xs.getD j zI = y := by rw [List.getD_eq_getElem?_getD, hy]; rfl
          clear hy hcy hg'
          have HBA := Lib.hid ((Below.refl wr.heap.size wr).alloc (Nat.le_refl _) (.cells #[.string y.1, .int .i64 y.2] 41))
          have HO2 := Lib.hid (HO.out.below HBA.out)
          have HBX := Lib.hid (heap_alloc_new wr (.cells #[.string y.1, .int .i64 y.2] 41))
          have HE : Hid (rdSwap k j xs k = [(y.1, y.2)]) := by show _ = _; unfold rdSwap; rw [if_neg hkj, if_pos rfl, hyg]
          clear hkj hxg hyg
          go_wp2_with first
            | (refine wpList_load_row rfl 41 (.tmp 9) rfl wr.heap.size rfl 41 #[.string y.1, .int .i64 y.2] (0, 0) _ HBX.out Tryd.underlying41 rfl HSZ.out ?_)
            | (at_builtin; refine append_kb (wr.heap.size + 1) (by simp) rfl _ _ 39 41 2 24 lc lc_length _ rfl (by omega) rfl Tryd.underlying39 info41 (by omega) u7 (runF (rdSwap k j xs) k) (y.1, y.2) _ rfl (lc_one _) rfl rfl HO2.out (by have := HLN.out; omega) ?_; intro g2 cap3 w2 ho2 hk2 hat; have HO9 := Lib.hid ho2; have HK9 := Lib.hid hk2; have HA9 := Lib.hid hat; have HB9 := Lib.hid (((Keep.of_below HBA.out _).trans hk2).below' HB.out (by omega) (fun j hj => HF.out j hj)); obtain ⟨hp9, a9, a39, _, _⟩ := HC.out w2 HB9.out; clear ho2 hk2 hat)
          go_roundw
          case rel =>
            have h9 : Rw w2 41 2 lc (.slice (some ⟨g2, 0, none⟩) ((runF (rdSwap k j xs) k).length + 1) cap3) (runF (rdSwap k j xs) (k + 1)) := by rw [runF_succ, HE.out]; have := HO9.out; rw [List.length_append] at this; exact this
            refine ⟨k + 1, by omega, by go_num, h9, HB9.out, fun j hj => ?_⟩
            rw [foot_slice, List.mem_singleton] at hj
            subst hj
            rcases HA9.out with h8 | h8
            · exact HF.out _ h8
            · have := HBA.out.size
              omega
          case measure => simp [intOf]; omega
      · obtain ⟨n1, n2⟩ := ne_facts hki
        by_cases hkj : k = j
        · subst hkj
          obtain ⟨g', o', e9, hg', y, hy, hcy⟩ := HRR.out.at_ i hi
          cases e9
          obtain ⟨cy0, cy1⟩ := lc_cells hcy
          have hyg : xs.getD i zI = y := by rw [List.getD_eq_getElem?_getD, hy]; rfl
          clear hy hcy hg'
          have HBA := Lib.hid ((Below.refl wr.heap.size wr).alloc (Nat.le_refl _) (.cells #[.string y.1, .int .i64 y.2] 41))
          have HO2 := Lib.hid (HO.out.below HBA.out)
          have HBX := Lib.hid (heap_alloc_new wr (.cells #[.string y.1, .int .i64 y.2] 41))
          have HE : Hid (rdSwap i k xs k = [(y.1, y.2)]) := by show _ = _; unfold rdSwap; rw [if_pos rfl, hyg]
          clear hki hxg hyg
          go_wp2_with first
            | (refine wpList_load_row rfl 41 (.tmp 9) rfl wr.heap.size rfl 41 #[.string y.1, .int .i64 y.2] (0, 0) _ HBX.out Tryd.underlying41 rfl HSZ.out ?_)
            | (at_builtin; refine append_kb (wr.heap.size + 1) (by simp) rfl _ _ 39 41 2 24 lc lc_length _ rfl (by omega) rfl Tryd.underlying39 info41 (by omega) u7 (runF (rdSwap i k xs) k) (y.1, y.2) _ rfl (lc_one _) rfl rfl HO2.out (by have := HLN.out; omega) ?_; intro g2 cap3 w2 ho2 hk2 hat; have HO9 := Lib.hid ho2; have HK9 := Lib.hid hk2; have HA9 := Lib.hid hat; have HB9 := Lib.hid (((Keep.of_below HBA.out _).trans hk2).below' HB.out (by omega) (fun j hj => HF.out j hj)); obtain ⟨hp9, a9, a39, _, _⟩ := HC.out w2 HB9.out; clear ho2 hk2 hat)
          go_roundw
          case rel =>
            have h9 : Rw w2 41 2 lc (.slice (some ⟨g2, 0, none⟩) ((runF (rdSwap i k xs) k).length + 1) cap3) (runF (rdSwap i k xs) (k + 1)) := by rw [runF_succ, HE.out]; have := HO9.out; rw [List.length_append] at this; exact this
            refine ⟨k + 1, by omega, by go_num, h9, HB9.out, fun j hj => ?_⟩
            rw [foot_slice, List.mem_singleton] at hj
            subst hj
            rcases HA9.out with h8 | h8
            · exact HF.out _ h8
            · have := HBA.out.size
              omega
          case measure => simp [intOf]; omega
        · obtain ⟨n3, n4⟩ := ne_facts hkj
          have HBA := Lib.hid ((Below.refl wr.heap.size wr).alloc (Nat.le_refl _) (.cells #[.string x.1, .int .i64 x.2] 41))
          have HO2 := Lib.hid (HO.out.below HBA.out)
          have HBX := Lib.hid (heap_alloc_new wr (.cells #[.string x.1, .int .i64 x.2] 41))
          have HE : Hid (rdSwap i j xs k = [(x.1, x.2)]) := by show _ = _; unfold rdSwap; rw [if_neg hkj, if_neg hki, hxg]
          clear hki hkj hxg
          go_wp2_with first
            | (refine wpList_load_row rfl 41 (.tmp 9) rfl wr.heap.size rfl 41 #[.string x.1, .int .i64 x.2] (0, 0) _ HBX.out Tryd.underlying41 rfl HSZ.out ?_)
            | (at_builtin; refine append_kb (wr.heap.size + 1) (by simp) rfl _ _ 39 41 2 24 lc lc_length _ rfl (by omega) rfl Tryd.underlying39 info41 (by omega) u7 (runF (rdSwap i j xs) k) (x.1, x.2) _ rfl (lc_one _) rfl rfl HO2.out (by have := HLN.out; omega) ?_; intro g2 cap3 w2 ho2 hk2 hat; have HO9 := Lib.hid ho2; have HK9 := Lib.hid hk2; have HA9 := Lib.hid hat; have HB9 := Lib.hid (((Keep.of_below HBA.out _).trans hk2).below' HB.out (by omega) (fun j hj => HF.out j hj)); obtain ⟨hp9, a9, a39, _, _⟩ := HC.out w2 HB9.out; clear ho2 hk2 hat)
          go_roundw
          case rel =>
            have h9 : Rw w2 41 2 lc (.slice (some ⟨g2, 0, none⟩) ((runF (rdSwap i j xs) k).length + 1) cap3) (runF (rdSwap i j xs) (k + 1)) := by rw [runF_succ, HE.out]; have := HO9.out; rw [List.length_append] at this; exact this
            refine ⟨k + 1, by omega, by go_num, h9, HB9.out, fun j hj => ?_⟩
            rw [foot_slice, List.mem_singleton] at hj
            subst hj
            rcases HA9.out with h8 | h8
            · exact HF.out _ h8
            · have := HBA.out.size
              omega
          case measure => simp [intOf]; omega
    · have he : k = xs.length := by omega
      subst he
      obtain ⟨sa, sc, hs3⟩ := HO.out.shape
      have HS3 := Lib.hid hs3
      clear hs3
      go_wp2_with fail
      go_ret
      exact ⟨_, rfl, HO.out.read lc_length, HBW.out⟩
end Go.Proofs.YthoemgiadadfcaaDoor
