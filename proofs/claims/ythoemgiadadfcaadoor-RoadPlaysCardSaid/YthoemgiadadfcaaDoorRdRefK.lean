/- The document's act on a list: the walk of ref.Do, deed by deed. -/
import Derived.Test.YthoemgiadadfcaaDoorRdRefB
set_option linter.unusedVariables false
set_option linter.unusedSimpArgs false
namespace Go.Proofs.YthoemgiadadfcaaDoor
open Go.RowKit Go.Sort Rd
attribute [local go_sem] Oper.semAt_some
set_option maxRecDepth 100000 in
set_option maxHeartbeats 3200000 in
theorem ref_drop (v : Value) (xs : List It) (xw : ByteArray) (i : Nat) (xb xc : Int) (w : World) (h : Rr w 2 lc v xs) (hn : xs.length ≤ 1000) (hi : i < xs.length) (hk : xw = sDrop)  :
    Calls Tryd.prog 15 #[v, ArgA ⟨xw, i, xb, xc⟩] w (Rx w (runF (rdDrop i xs) xs.length)) := by
  obtain ⟨p, cap, rfl, hx⟩ := h
  have HX := Lib.hid (show Rr w 2 lc (.slice p xs.length cap) xs from ⟨p, cap, rfl, hx⟩)
  clear hx
  unfold ArgA
  obtain ⟨W0, hW0⟩ : ∃ W0, W0 = w.alloc (.cells #[.string xw, .int .i64 (i : Nat), .int .i64 xb, .int .i64 xc] 29) := ⟨_, rfl⟩
  have hn1 : W0.heap[w.heap.size]? = some (.cells #[.string xw, .int .i64 (i : Nat), .int .i64 xb, .int .i64 xc] 29 (0, 0)) := by rw [hW0]; exact heap_alloc_new w _
  have hb1 : Below w.heap.size w W0 := by rw [hW0]; exact (Below.refl _ _).alloc (Nat.le_refl _) _
  have l1 : (w.alloc (.cells #[.string xw, .int .i64 (i : Nat), .int .i64 xb, .int .i64 xc] 29)).cell? ⟨w.heap.size, 1, none⟩ = some (.int .i64 (i : Nat)) := by rw [← hW0]; exact cell_of_row _ _ 1 _ 29 (0, 0) hn1
  have l2 : (w.alloc (.cells #[.string xw, .int .i64 (i : Nat), .int .i64 xb, .int .i64 xc] 29)).cell? ⟨w.heap.size, 2, none⟩ = some (.int .i64 xb) := by rw [← hW0]; exact cell_of_row _ _ 2 _ 29 (0, 0) hn1
  have HC : Hid (∀ wr, Below (w.heap.size + 1) W0 wr → w.heap.size < wr.heap.size ∧ wr.cell? ⟨w.heap.size, 0, none⟩ = some (.string xw) ∧ wr.cell? ⟨w.heap.size, 3, none⟩ = some (.int .i64 xc) ∧ Rr wr 2 lc (.slice p xs.length cap) xs ∧ Below w.heap.size w wr) := fun wr hb => by
    have h9 := (hb.block w.heap.size (Nat.lt_succ_self _)).trans hn1
    have h8 := hb1.trans (hb.mono (Nat.le_succ _))
    exact ⟨(Array.getElem?_eq_some_iff.1 h9).1, cell_of_row _ _ 0 _ 29 (0, 0) h9, cell_of_row _ _ 3 _ 29 (0, 0) h9, HX.out.below h8, h8⟩
  have HW0 := Lib.hid hW0
  have HSZ : Hid ((Tryd.prog.info? 41).map (·.size) = some 2) := (by kernel_rfl : (Tryd.prog.info? 41).map (·.size) = some 2)
  have HS0 : Hid (W0.heap.size = w.heap.size + 1) := by show _ = _; rw [hW0]; simp
  have g0 : (xw.toList == [100, 114, 111, 112]) = true := tl_yes hk
  have g1 : (xw.toList == [115, 119, 97, 112]) = false := tl_no (t := sSwap) (by rw [hk]; decide)
  have g2 : (xw.toList == [115, 112, 111, 105, 108]) = false := tl_no (t := sSpoil) (by rw [hk]; decide)
  have g3 : (xw.toList == [116, 114, 105, 109]) = false := tl_no (t := sTrim) (by rw [hk]; decide)
  have g4 : (xw.toList == [116, 119, 105, 99, 101]) = false := tl_no (t := sTwice) (by rw [hk]; decide)

  have z1 : decide ((i : Int) < 0) = false := decide_eq_false (by omega)
  have z2 : decide ((xs.length : Int) ≤ (i : Int)) = false := decide_eq_false (by omega)
  have z3 : decide (xs.length ≤ i) = false := decide_eq_false (by omega)
  clear hn1 hb1 hW0 HX hk
  go_enter Tryd.func15, Tryd.ntmps15
  go_wp2_with (go_quiet (fail))
  clear l1 l2
  go_loopw [7, 8] (fun out ix wr => ∃ k : Nat, k ≤ xs.length ∧ ix = .int .i64 k ∧ Rw wr 41 2 lc out (runF (rdDrop i xs) k) ∧ Below (w.heap.size + 1) W0 wr ∧ ∀ j ∈ foot out, w.heap.size + 1 ≤ j) (fun _ ix _ => xs.length - (intOf ix).toNat)
  case atStart => exact ⟨0, Nat.zero_le _, rfl, Rw.nil .., by rw [HW0.out]; exact below_drewN (Below.refl _ _) _, by simp [foot_nil]⟩
  case round =>
    obtain ⟨k, hk, rfl, ho, hb, hf⟩ := hrel
    obtain ⟨hp0, a0, a3, hrr, hbw⟩ := HC.out wr hb
    have HO := Lib.hid ho
    have HB := Lib.hid hb
    have HF := Lib.hid hf
    have HBW := Lib.hid hbw
    have HRR := Lib.hid hrr
    have HLN := Lib.hid (runF_len (rdDrop i xs) (fun n => by first | (simp [rdDrop, rdTwice, rdUpd, rdSwap, rdSame]; done) | (unfold rdDrop; split <;> simp) | (unfold rdTwice; split <;> simp)) k)
    clear ho hb hf hbw hrr
    by_cases hlt : k < xs.length
    · obtain ⟨g, o, rfl, hg, x, hx, hc⟩ := HRR.out.at_ k hlt
      obtain ⟨c0, c1⟩ := lc_cells hc
      have hxg : xs.getD k zI = x := by rw [List.getD_eq_getElem?_getD, hx]; rfl
      have HXK := Lib.hid hx
      clear hc hx
      by_cases hki : k = i
      · subst hki
        have HBA := Lib.hid ((Below.refl wr.heap.size wr).alloc (Nat.le_refl _) (.cells #[.string x.1, .int .i64 x.2] 41))
        have HO2 := Lib.hid (HO.out.below HBA.out)
        have HBX := Lib.hid (heap_alloc_new wr (.cells #[.string x.1, .int .i64 x.2] 41))
        have HE : Hid (rdDrop k xs k = []) := by show _ = _; unfold rdDrop; rw [if_pos rfl]
        go_wp2_with fail
        go_roundw
        case rel => exact ⟨k + 1, by omega, by go_num, by rw [runF_succ, HE.out, List.append_nil]; exact HO2.out, HB.out.trans (HBA.out.mono (by omega)), HF.out⟩
        case measure => simp [intOf]; omega
      · obtain ⟨n1, n2⟩ := ne_facts hki
        have HBA := Lib.hid ((Below.refl wr.heap.size wr).alloc (Nat.le_refl _) (.cells #[.string x.1, .int .i64 x.2] 41))
        have HO2 := Lib.hid (HO.out.below HBA.out)
        have HBX := Lib.hid (heap_alloc_new wr (.cells #[.string x.1, .int .i64 x.2] 41))
        have HE : Hid (rdDrop i xs k = [(x.1, x.2)]) := by show _ = _; unfold rdDrop; rw [if_neg hki, hxg]
        clear hki hxg
        go_wp2_with first
          | (refine wpList_load_row rfl 41 (.tmp 9) rfl wr.heap.size rfl 41 #[.string x.1, .int .i64 x.2] (0, 0) _ HBX.out Tryd.underlying41 rfl HSZ.out ?_)
          | (at_builtin; refine append_kb (wr.heap.size + 1) (by simp) rfl _ _ 39 41 2 24 lc lc_length _ rfl (by omega) rfl Tryd.underlying39 info41 (by omega) u7 (runF (rdDrop i xs) k) (x.1, x.2) _ rfl (lc_one _) rfl rfl HO2.out (by have := HLN.out; omega) ?_; intro g2 cap3 w2 ho2 hk2 hat; have HO9 := Lib.hid ho2; have HK9 := Lib.hid hk2; have HA9 := Lib.hid hat; have HB9 := Lib.hid (((Keep.of_below HBA.out _).trans hk2).below' HB.out (by omega) (fun j hj => HF.out j hj)); obtain ⟨hp9, a9, a39, _, _⟩ := HC.out w2 HB9.out; clear ho2 hk2 hat)
        go_roundw
        case rel =>
          have h9 : Rw w2 41 2 lc (.slice (some ⟨g2, 0, none⟩) ((runF (rdDrop i xs) k).length + 1) cap3) (runF (rdDrop i xs) (k + 1)) := by rw [runF_succ, HE.out]; have := HO9.out; rw [List.length_append] at this; exact this
          refine ⟨k + 1, by omega, by go_num, h9, HB9.out, fun j hj => ?_⟩
          rw [foot_slice, List.mem_singleton] at hj
          subst hj
          rcases HA9.out with h8 | h8
          · exact HF.out _ h8
          · have := HBA.out.size
            omega
        case measure => simp [intOf]; omega
    · have he : k = xs.length := by omega
      subst he
      obtain ⟨sa, sc, hs3⟩ := HO.out.shape
      have HS3 := Lib.hid hs3
      clear hs3
      go_wp2_with fail
      go_ret
      exact ⟨_, rfl, HO.out.read lc_length, HBW.out⟩
set_option maxRecDepth 100000 in
set_option maxHeartbeats 3200000 in
theorem ref_twice (v : Value) (xs : List It) (xw : ByteArray) (i : Nat) (xb xc : Int) (w : World) (h : Rr w 2 lc v xs) (hn : xs.length ≤ 1000) (hi : i < xs.length) (hk : xw = sTwice)  :
    Calls Tryd.prog 15 #[v, ArgA ⟨xw, i, xb, xc⟩] w (Rx w (runF (rdTwice i xs) xs.length)) := by
  obtain ⟨p, cap, rfl, hx⟩ := h
  have HX := Lib.hid (show Rr w 2 lc (.slice p xs.length cap) xs from ⟨p, cap, rfl, hx⟩)
  clear hx
  unfold ArgA
  obtain ⟨W0, hW0⟩ : ∃ W0, W0 = w.alloc (.cells #[.string xw, .int .i64 (i : Nat), .int .i64 xb, .int .i64 xc] 29) := ⟨_, rfl⟩
  have hn1 : W0.heap[w.heap.size]? = some (.cells #[.string xw, .int .i64 (i : Nat), .int .i64 xb, .int .i64 xc] 29 (0, 0)) := by rw [hW0]; exact heap_alloc_new w _
  have hb1 : Below w.heap.size w W0 := by rw [hW0]; exact (Below.refl _ _).alloc (Nat.le_refl _) _
  have l1 : (w.alloc (.cells #[.string xw, .int .i64 (i : Nat), .int .i64 xb, .int .i64 xc] 29)).cell? ⟨w.heap.size, 1, none⟩ = some (.int .i64 (i : Nat)) := by rw [← hW0]; exact cell_of_row _ _ 1 _ 29 (0, 0) hn1
  have l2 : (w.alloc (.cells #[.string xw, .int .i64 (i : Nat), .int .i64 xb, .int .i64 xc] 29)).cell? ⟨w.heap.size, 2, none⟩ = some (.int .i64 xb) := by rw [← hW0]; exact cell_of_row _ _ 2 _ 29 (0, 0) hn1
  have HC : Hid (∀ wr, Below (w.heap.size + 1) W0 wr → w.heap.size < wr.heap.size ∧ wr.cell? ⟨w.heap.size, 0, none⟩ = some (.string xw) ∧ wr.cell? ⟨w.heap.size, 3, none⟩ = some (.int .i64 xc) ∧ Rr wr 2 lc (.slice p xs.length cap) xs ∧ Below w.heap.size w wr) := fun wr hb => by
    have h9 := (hb.block w.heap.size (Nat.lt_succ_self _)).trans hn1
    have h8 := hb1.trans (hb.mono (Nat.le_succ _))
    exact ⟨(Array.getElem?_eq_some_iff.1 h9).1, cell_of_row _ _ 0 _ 29 (0, 0) h9, cell_of_row _ _ 3 _ 29 (0, 0) h9, HX.out.below h8, h8⟩
  have HW0 := Lib.hid hW0
  have HSZ : Hid ((Tryd.prog.info? 41).map (·.size) = some 2) := (by kernel_rfl : (Tryd.prog.info? 41).map (·.size) = some 2)
  have HS0 : Hid (W0.heap.size = w.heap.size + 1) := by show _ = _; rw [hW0]; simp
  have g0 : (xw.toList == [100, 114, 111, 112]) = false := tl_no (t := sDrop) (by rw [hk]; decide)
  have g1 : (xw.toList == [115, 119, 97, 112]) = false := tl_no (t := sSwap) (by rw [hk]; decide)
  have g2 : (xw.toList == [115, 112, 111, 105, 108]) = false := tl_no (t := sSpoil) (by rw [hk]; decide)
  have g3 : (xw.toList == [116, 114, 105, 109]) = false := tl_no (t := sTrim) (by rw [hk]; decide)
  have g4 : (xw.toList == [116, 119, 105, 99, 101]) = true := tl_yes hk

  have z1 : decide ((i : Int) < 0) = false := decide_eq_false (by omega)
  have z2 : decide ((xs.length : Int) ≤ (i : Int)) = false := decide_eq_false (by omega)
  have z3 : decide (xs.length ≤ i) = false := decide_eq_false (by omega)
  clear hn1 hb1 hW0 HX hk
  go_enter Tryd.func15, Tryd.ntmps15
  go_wp2_with (go_quiet (fail))
  clear l1 l2
  go_loopw [7, 8] (fun out ix wr => ∃ k : Nat, k ≤ xs.length ∧ ix = .int .i64 k ∧ Rw wr 41 2 lc out (runF (rdTwice i xs) k) ∧ Below (w.heap.size + 1) W0 wr ∧ ∀ j ∈ foot out, w.heap.size + 1 ≤ j) (fun _ ix _ => xs.length - (intOf ix).toNat)
  case atStart => exact ⟨0, Nat.zero_le _, rfl, Rw.nil .., by rw [HW0.out]; exact below_drewN (Below.refl _ _) _, by simp [foot_nil]⟩
  case round =>
    obtain ⟨k, hk, rfl, ho, hb, hf⟩ := hrel
    obtain ⟨hp0, a0, a3, hrr, hbw⟩ := HC.out wr hb
    have HO := Lib.hid ho
    have HB := Lib.hid hb
    have HF := Lib.hid hf
    have HBW := Lib.hid hbw
    have HRR := Lib.hid hrr
    have HLN := Lib.hid (runF_len (rdTwice i xs) (fun n => by first | (simp [rdDrop, rdTwice, rdUpd, rdSwap, rdSame]; done) | (unfold rdDrop; split <;> simp) | (unfold rdTwice; split <;> simp)) k)
    clear ho hb hf hbw hrr
    by_cases hlt : k < xs.length
    · obtain ⟨g, o, rfl, hg, x, hx, hc⟩ := HRR.out.at_ k hlt
      obtain ⟨c0, c1⟩ := lc_cells hc
      have hxg : xs.getD k zI = x := by rw [List.getD_eq_getElem?_getD, hx]; rfl
      have HXK := Lib.hid hx
      clear hc hx
      by_cases hki : k = i
      · subst hki
        have HBA := Lib.hid ((Below.refl wr.heap.size wr).alloc (Nat.le_refl _) (.cells #[.string x.1, .int .i64 x.2] 41))
        have HO2 := Lib.hid (HO.out.below HBA.out)
        have HBX := Lib.hid (heap_alloc_new wr (.cells #[.string x.1, .int .i64 x.2] 41))
        have HE : Hid (rdTwice k xs k = [(x.1, x.2), (x.1, x.2)]) := by show _ = _; unfold rdTwice; rw [if_pos rfl, hxg]
        have hln : decide ((xs.length : Int) < 8192) = true := decide_eq_true (by omega)
        have hln2 : decide (xs.length < 8192) = true := decide_eq_true (by omega)
        have HLT := Lib.hid (fun j (hj : j ∈ foot u7) => HO.out.lt j hj)
        clear hxg
        go_wp2_with first
          | (refine wpList_load_row rfl 41 (.tmp 9) rfl wr.heap.size rfl 41 #[.string x.1, .int .i64 x.2] (0, 0) _ HBX.out Tryd.underlying41 rfl HSZ.out ?_)
          | (at_builtin; refine append_kb (wr.heap.size + 1) (by simp) rfl _ _ 39 41 2 24 lc lc_length _ rfl (by omega) rfl Tryd.underlying39 info41 (by omega) u7 (runF (rdTwice k xs) k) (x.1, x.2) _ rfl (lc_one _) rfl rfl HO2.out (by have := HLN.out; omega) ?_; intro g2 cap3 w2 ho2 hk2 hat; rw [List.length_append] at ho2; have HO9 := Lib.hid (show Rw w2 41 2 lc (.slice (some ⟨g2, 0, none⟩) ((runF (rdTwice k xs) k).length + 1) cap3) (runF (rdTwice k xs) k ++ [(x.1, x.2)]) from ho2); have HK9 := Lib.hid hk2; have HA9 := Lib.hid hat; have HB9 := Lib.hid (((Keep.of_below HBA.out _).trans hk2).below' HB.out (by omega) (fun j hj => HF.out j hj)); have HBX2 := Lib.hid ((hk2.block wr.heap.size (by simp) (fun hj => Nat.lt_irrefl _ (HLT.out _ hj))).trans HBX.out); obtain ⟨hp9, a9, a39, _, _⟩ := HC.out w2 HB9.out; clear ho2 hk2 hat)
          | (refine wpList_load_row rfl 41 (.tmp 9) rfl wr.heap.size rfl 41 #[.string x.1, .int .i64 x.2] (0, 0) _ HBX2.out Tryd.underlying41 rfl HSZ.out ?_)
          | (at_builtin; refine append_kb w2.heap.size rfl rfl _ _ 39 41 2 24 lc lc_length _ rfl (by omega) rfl Tryd.underlying39 info41 (by omega) (.slice (some ⟨g2, 0, none⟩) ((runF (rdTwice k xs) k).length + 1) cap3) (runF (rdTwice k xs) k ++ [(x.1, x.2)]) (x.1, x.2) _ rfl (lc_one _) rfl rfl HO9.out (by rw [List.length_append]; have := HLN.out; simp only [List.length_cons, List.length_nil]; omega) ?_; intro g3 cap4 w3 ho3 hk3 hat3; have HO10 := Lib.hid ho3; have HK10 := Lib.hid hk3; have HA10 := Lib.hid hat3; clear ho3 hk3 hat3)
        go_roundw
        case rel =>
          have hf2 : ∀ j ∈ foot (.slice (some ⟨g2, 0, none⟩) ((runF (rdTwice k xs) k).length + 1) cap3), w.heap.size + 1 ≤ j := fun j hj => by
            rw [foot_slice, List.mem_singleton] at hj
            subst hj
            rcases HA9.out with h8 | h8
            · exact HF.out _ h8
            · have := HBA.out.size
              omega
          have h9 : Rw w3 41 2 lc (.slice (some ⟨g3, 0, none⟩) ((runF (rdTwice k xs) k).length + 1 + 1) cap4) (runF (rdTwice k xs) (k + 1)) := by rw [runF_succ, HE.out]; have := HO10.out; rw [List.length_append, List.length_append, List.append_assoc] at this; exact this
          refine ⟨k + 1, by omega, by go_num, h9, HK10.out.below' HB9.out (by omega) hf2, fun j hj => ?_⟩
          rw [foot_slice, List.mem_singleton] at hj
          subst hj
          rcases HA10.out with h8 | h8
          · exact hf2 _ h8
          · omega
        case measure => simp [intOf]; omega
      · obtain ⟨n1, n2⟩ := ne_facts hki
        have HBA := Lib.hid ((Below.refl wr.heap.size wr).alloc (Nat.le_refl _) (.cells #[.string x.1, .int .i64 x.2] 41))
        have HO2 := Lib.hid (HO.out.below HBA.out)
        have HBX := Lib.hid (heap_alloc_new wr (.cells #[.string x.1, .int .i64 x.2] 41))
        have HE : Hid (rdTwice i xs k = [(x.1, x.2)]) := by show _ = _; unfold rdTwice; rw [if_neg hki, hxg]
        clear hki hxg
        go_wp2_with first
          | (refine wpList_load_row rfl 41 (.tmp 9) rfl wr.heap.size rfl 41 #[.string x.1, .int .i64 x.2] (0, 0) _ HBX.out Tryd.underlying41 rfl HSZ.out ?_)
          | (at_builtin; refine append_kb (wr.heap.size + 1) (by simp) rfl _ _ 39 41 2 24 lc lc_length _ rfl (by omega) rfl Tryd.underlying39 info41 (by omega) u7 (runF (rdTwice i xs) k) (x.1, x.2) _ rfl (lc_one _) rfl rfl HO2.out (by have := HLN.out; omega) ?_; intro g2 cap3 w2 ho2 hk2 hat; have HO9 := Lib.hid ho2; have HK9 := Lib.hid hk2; have HA9 := Lib.hid hat; have HB9 := Lib.hid (((Keep.of_below HBA.out _).trans hk2).below' HB.out (by omega) (fun j hj => HF.out j hj)); obtain ⟨hp9, a9, a39, _, _⟩ := HC.out w2 HB9.out; clear ho2 hk2 hat)
        go_roundw
        case rel =>
          have h9 : Rw w2 41 2 lc (.slice (some ⟨g2, 0, none⟩) ((runF (rdTwice i xs) k).length + 1) cap3) (runF (rdTwice i xs) (k + 1)) := by rw [runF_succ, HE.out]; have := HO9.out; rw [List.length_append] at this; exact this
          refine ⟨k + 1, by omega, by go_num, h9, HB9.out, fun j hj => ?_⟩
          rw [foot_slice, List.mem_singleton] at hj
          subst hj
          rcases HA9.out with h8 | h8
          · exact HF.out _ h8
          · have := HBA.out.size
            omega
        case measure => simp [intOf]; omega
    · have he : k = xs.length := by omega
      subst he
      obtain ⟨sa, sc, hs3⟩ := HO.out.shape
      have HS3 := Lib.hid hs3
      clear hs3
      go_wp2_with fail
      go_ret
      exact ⟨_, rfl, HO.out.read lc_length, HBW.out⟩
end Go.Proofs.YthoemgiadadfcaaDoor
