/- The document's act on a list: the walk of ref.Do, deed by deed. -/
import Derived.Test.YthoemgiadadfcaaDoorRdRefB
import Derived.Laws.Runes
set_option linter.unusedVariables false
set_option linter.unusedSimpArgs false
namespace Go.Proofs.YthoemgiadadfcaaDoor
open Go.RowKit Go.Sort Rd
attribute [local go_sem] Oper.semAt_some
set_option maxRecDepth 100000 in
set_option maxHeartbeats 3200000 in
theorem ref_spoil (v : Value) (xs : List It) (xw : ByteArray) (i : Nat) (xb xc : Int) (w : World) (h : Rr w 2 lc v xs) (hn : xs.length ≤ 1000) (hi : i < xs.length) (hk : xw = sSpoil) (hsz : Sz 140737488355328 xs) :
    Calls Tryd.prog 15 #[v, ArgA ⟨xw, i, xb, xc⟩] w (Rx w (runF (rdUpd i (spoilF xb xc) xs) xs.length)) := by
  obtain ⟨p, cap, rfl, hx⟩ := h
  have HX := Lib.hid (show Rr w 2 lc (.slice p xs.length cap) xs from ⟨p, cap, rfl, hx⟩)
  clear hx
  unfold ArgA
  obtain ⟨W0, hW0⟩ : ∃ W0, W0 = w.alloc (.cells #[.string xw, .int .i64 (i : Nat), .int .i64 xb, .int .i64 xc] 29) := ⟨_, rfl⟩
  have hn1 : W0.heap[w.heap.size]? = some (.cells #[.string xw, .int .i64 (i : Nat), .int .i64 xb, .int .i64 xc] 29 (0, 0)) := by rw [hW0]; exact heap_alloc_new w _
  have hb1 : Below w.heap.size w W0 := by rw [hW0]; exact (Below.refl _ _).alloc (Nat.le_refl _) _
  have l1 : (w.alloc (.cells #[.string xw, .int .i64 (i : Nat), .int .i64 xb, .int .i64 xc] 29)).cell? ⟨w.heap.size, 1, none⟩ = some (.int .i64 (i : Nat)) := by rw [← hW0]; exact cell_of_row _ _ 1 _ 29 (0, 0) hn1
  have l2 : (w.alloc (.cells #[.string xw, .int .i64 (i : Nat), .int .i64 xb, .int .i64 xc] 29)).cell? ⟨w.heap.size, 2, none⟩ = some (.int .i64 xb) := by rw [← hW0]; exact cell_of_row _ _ 2 _ 29 (0, 0) hn1
  have HC : Hid (∀ wr, Below (w.heap.size + 1) W0 wr → w.heap.size < wr.heap.size ∧ wr.cell? ⟨w.heap.size, 0, none⟩ = some (.string xw) ∧ wr.cell? ⟨w.heap.size, 3, none⟩ = some (.int .i64 xc) ∧ Rr wr 2 lc (.slice p xs.length cap) xs ∧ Below w.heap.size w wr) := fun wr hb => by
    have h9 := (hb.block w.heap.size (Nat.lt_succ_self _)).trans hn1
    have h8 := hb1.trans (hb.mono (Nat.le_succ _))
    exact ⟨(Array.getElem?_eq_some_iff.1 h9).1, cell_of_row _ _ 0 _ 29 (0, 0) h9, cell_of_row _ _ 3 _ 29 (0, 0) h9, HX.out.below h8, h8⟩
  have HW0 := Lib.hid hW0
  have HSZ : Hid ((Tryd.prog.info? 41).map (·.size) = some 2) := (by kernel_rfl : (Tryd.prog.info? 41).map (·.size) = some 2)
  have HS0 : Hid (W0.heap.size = w.heap.size + 1) := by show _ = _; rw [hW0]; simp
  have g0 : (xw.toList == [100, 114, 111, 112]) = false := tl_no (t := sDrop) (by rw [hk]; decide)
  have g1 : (xw.toList == [115, 119, 97, 112]) = false := tl_no (t := sSwap) (by rw [hk]; decide)
  have g2 : (xw.toList == [115, 112, 111, 105, 108]) = true := tl_yes hk
  have g3 : (xw.toList == [116, 114, 105, 109]) = false := tl_no (t := sTrim) (by rw [hk]; decide)
  have g4 : (xw.toList == [116, 119, 105, 99, 101]) = false := tl_no (t := sTwice) (by rw [hk]; decide)
  have HSB := Lib.hid hsz
  clear hsz
  have z1 : decide ((i : Int) < 0) = false := decide_eq_false (by omega)
  have z2 : decide ((xs.length : Int) ≤ (i : Int)) = false := decide_eq_false (by omega)
  have z3 : decide (xs.length ≤ i) = false := decide_eq_false (by omega)
  clear hn1 hb1 hW0 HX hk
  go_enter Tryd.func15, Tryd.ntmps15
  go_wp2_with (go_quiet (fail))
  clear l1 l2
  go_loopw [7, 8] (fun out ix wr => ∃ k : Nat, k ≤ xs.length ∧ ix = .int .i64 k ∧ Rw wr 41 2 lc out (runF (rdUpd i (spoilF xb xc) xs) k) ∧ Below (w.heap.size + 1) W0 wr ∧ ∀ j ∈ foot out, w.heap.size + 1 ≤ j) (fun _ ix _ => xs.length - (intOf ix).toNat)
  case atStart => exact ⟨0, Nat.zero_le _, rfl, Rw.nil .., by rw [HW0.out]; exact below_drewN (Below.refl _ _) _, by simp [foot_nil]⟩
  case round =>
    obtain ⟨k, hk, rfl, ho, hb, hf⟩ := hrel
    obtain ⟨hp0, a0, a3, hrr, hbw⟩ := HC.out wr hb
    have HO := Lib.hid ho
    have HB := Lib.hid hb
    have HF := Lib.hid hf
    have HBW := Lib.hid hbw
    have HRR := Lib.hid hrr
    have HLN := Lib.hid (runF_len (rdUpd i (spoilF xb xc) xs) (fun n => by first | (simp [rdDrop, rdTwice, rdUpd, rdSwap, rdSame]; done) | (unfold rdDrop; split <;> simp) | (unfold rdTwice; split <;> simp)) k)
    clear ho hb hf hbw hrr
    by_cases hlt : k < xs.length
    · obtain ⟨g, o, rfl, hg, x, hx, hc⟩ := HRR.out.at_ k hlt
      obtain ⟨c0, c1⟩ := lc_cells hc
      have hxg : xs.getD k zI = x := by rw [List.getD_eq_getElem?_getD, hx]; rfl
      have HXK := Lib.hid hx
      clear hc hx
      by_cases hki : k = i
      · subst hki
        by_cases hb : inn xb x.1.size
        · obtain ⟨j, rfl⟩ : ∃ j : Nat, xb = j := ⟨xb.toNat, by unfold inn at hb; omega⟩
          have hjl : j < x.1.size := by unfold inn at hb; omega
          have y1 : decide ((j : Int) < (x.1.size : Int)) = true := decide_eq_true (by omega)
          have y2 : decide (j < x.1.size) = true := decide_eq_true hjl
          have HE : Hid (rdUpd k (spoilF (j : Nat) xc) xs k = [(spoilS j xc x.1, x.2)]) := by show _ = _; unfold rdUpd; rw [if_pos rfl, hxg]; unfold spoilF; rw [if_pos hb]; rfl
          have hxb : x.1.size ≤ 140737488355328 := HSB.out x (List.mem_of_getElem? HXK.out)
          clear hxg hb
          have hm1 : -256 < xc.tmod 256 := Int.lt_tmod_of_pos xc (by omega)
          have hm2 : xc.tmod 256 < 256 := Int.tmod_lt_of_pos xc (by omega)
          by_cases ht : xc.tmod 256 < 0
          · have y3 : decide (xc.tmod 256 < 0) = true := decide_eq_true ht
            go_wp2_with fail
            obtain ⟨by9, hby⟩ : ∃ by9 : Int, by9 = (xc.tmod 256 + 256) := ⟨_, rfl⟩
            rw [← hby]
            have hbe : by9 % 256 = xc % 256 := by have := Int.mul_tdiv_add_tmod xc 256; omega
            have HBE := Lib.hid hbe
            have hb0 : 0 ≤ by9 ∧ by9 < 256 := by omega
            obtain ⟨pb, hpb⟩ : ∃ pb, pb = wr.heap.size := ⟨_, rfl⟩
            obtain ⟨W1, hW1⟩ : ∃ W1, W1 = wr.alloc (.cells #[.string x.1, .int .i64 x.2] 41) := ⟨_, rfl⟩
            have hbx : W1.heap[pb]? = some (.cells #[.string x.1, .int .i64 x.2] 41 (0, 0)) := by rw [hW1, hpb]; exact heap_alloc_new wr _
            rw [← hW1, ← hpb]
            have hpl : pb < W1.heap.size := (Array.getElem?_eq_some_iff.1 hbx).1
            have b0 : W1.cell? ⟨pb, 0, none⟩ = some (.string x.1) := cell_of_row _ _ 0 _ _ _ hbx
            have f0 : W1.frozen? ⟨pb, 0, none⟩ = false := by simp [World.frozen?, hbx]
            obtain ⟨bj, hbj⟩ : ∃ bj : Int, bj = (ints x.1)[j]?.getD 0 := ⟨_, rfl⟩
            have HIX : Hid (∀ w, (Instr.index 9 (.string x.1) (.int .i64 (j : Nat))).run Tryd.prog w = .ok (.int .u8 bj) w) := fun w => by rw [hbj]; exact index_str x.1 j hjl w
            have HBJ := Lib.hid hbj
            have HPB := Lib.hid hpb
            have HW1 := Lib.hid hW1
            have HBXW := Lib.hid hbx
            clear hby hbe hpb hW1 hbj hbx ht
            have H0 : Hid (∀ w', Below W1.heap.size W1 w' → Below W1.heap.size W1 (w'.alloc (.cells #[.int .u8 (bits .xor .u8 bj (by9 % 256))] 5)) ∧ (true = true → ∃ q, (.slice (some ⟨w'.heap.size, 0, none⟩) 1 1 : Value) = .slice (some ⟨q, 0, none⟩) 1 1 ∧ W1.heap.size ≤ q ∧ (w'.alloc (.cells #[.int .u8 (bits .xor .u8 bj (by9 % 256))] 5)).heap[q]? = some (.cells #[.int .u8 (bits .xor .u8 bj (by9 % 256))] 5 (0, 0)))) := fun w' hb =>
              ⟨hb.alloc hb.size _, fun _ => ⟨_, rfl, hb.size, heap_alloc_new w' _⟩⟩
            have hs2 : (strOfNums [(bits .xor .u8 bj (by9 % 256))]).size = 1 := strOfNums_size _
            have hs1 : (x.1.extract 0 j).size = j := by rw [ByteArray.size_extract]; omega
            have hs12 : (x.1.extract 0 j ++ strOfNums [(bits .xor .u8 bj (by9 % 256))]).size = j + 1 := by rw [ByteArray.size_append, hs1, hs2]
            have hs3 : (x.1.extract (j + 1) x.1.size).size = x.1.size - (j + 1) := by rw [ByteArray.size_extract]; omega
            have hz1 : ¬ 9223372036854775807 < j + (strOfNums [(bits .xor .u8 bj (by9 % 256))]).size := by omega
            have hz2 : ¬ 9223372036854775807 < j + (strOfNums [(bits .xor .u8 bj (by9 % 256))]).size + (x.1.size - (j + 1)) := by omega
            have hcj : 0 ≤ (j : Int) + 1 ∧ (j : Int) + 1 ≤ (x.1.size : Int) := by omega
            have hwj : IntKind.i64.wrap ((j : Int) + 1) = (j : Int) + 1 := wrap_small _ (by omega) (by omega)
            have hjle : j ≤ x.1.size := by omega
            have hj1 : j + 1 ≤ x.1.size := by omega
            clear hs1 hs2 hs12 hs3
            obtain ⟨I, hI⟩ : ∃ I : (Nat → Bool) → Act → World → Prop, ∀ dn ac wc, I dn ac wc ↔ ∃ s98 s99 s100 s101 s102 s103 s104 s105 s106 s107 s108 s109 s110 s111 s112 s113 s114 s115 s116 s117 s118, ac = ⟨#[Value.slice (some { block := g, off := o }) xs.length cap, Value.agg #[Value.string xw, Value.int IntKind.i64 ↑k, Value.int IntKind.i64 ↑j, Value.int IntKind.i64 xc], undef, Value.pointer (some { block := w.heap.size, off := 0 }), Value.slice none 0 0, Value.int IntKind.i64 ↑k, Value.int IntKind.i64 ↑j, u7, Value.int IntKind.i64 ↑k, Value.pointer (some { block := pb, off := 0 }), Value.int IntKind.i64 by9, Value.pointer (some { block := w.heap.size, off := 1 }), Value.pointer (some { block := w.heap.size, off := 1 }), Value.int IntKind.i64 ↑k, Value.pointer (some { block := w.heap.size, off := 1 }), Value.pointer (some { block := w.heap.size, off := 2 }), Value.int IntKind.i64 ↑j, Value.int IntKind.i64 ↑k, Value.bool false, Value.bool false, Value.int IntKind.i64 ↑k, Value.slice (some { block := g, off := o }) xs.length cap, Value.int IntKind.i64 ↑xs.length, Value.bool false, Value.bool false, undef, Value.int IntKind.i64 ↑k, Value.slice (some { block := g, off := o }) xs.length cap, Value.int IntKind.i64 ↑xs.length, Value.bool true, u30, u31, Value.slice (some { block := g, off := o }) xs.length cap, Value.int IntKind.i64 ↑k, Value.pointer (some { block := g, off := o + k * 2 }), Value.agg #[Value.string x.fst, Value.int IntKind.i64 x.snd], Value.pointer (some { block := w.heap.size, off := 0 }), Value.string xw, Value.bool false, Value.bool false, undef, undef, undef, Value.bool false, Value.pointer (some { block := w.heap.size, off := 0 }), Value.string xw, Value.bool false, Value.bool false, undef, undef, Value.bool false, Value.bool false, undef, undef, undef, undef, Value.bool false, u57, u58, u59, u60, u61, u62, u63, u64, u65, u66, u67, u68, u69, u70, Value.pointer (some { block := w.heap.size, off := 0 }), Value.string xw, Value.bool true, Value.bool true, Value.int IntKind.i64 ↑k, Value.int IntKind.i64 ↑k, Value.bool true, Value.bool true, Value.bool true, Value.int IntKind.i64 ↑j, Value.bool true, Value.bool true, Value.bool true, Value.int IntKind.i64 ↑j, Value.pointer (some { block := pb, off := 0 }), Value.string x.fst, Value.int IntKind.i64 ↑x.fst.size, Value.bool true, Value.bool true, Value.pointer (some { block := w.heap.size, off := 1 }), Value.pointer (some { block := w.heap.size, off := 3 }), Value.int IntKind.i64 xc, Value.int IntKind.i64 (xc.tmod 256), Value.int IntKind.i64 (xc.tmod 256), Value.bool true, Value.int IntKind.i64 (xc.tmod 256), Value.int IntKind.i64 by9, s98, s99, s100, s101, s102, s103, s104, s105, s106, s107, s108, s109, s110, s111, s112, s113, s114, s115, s116, s117, s118, u119, u120, u121, u122, u123, u124, u125, u126, u127, u128, u129, u130, u131, u132, u133, u134, u135, u136, u137, u138, u139, u140, u141, u142, u143, u144, u145, u146, u147, u148, u149, u150, u151, u152, u153, u154, u155, u156, u157, u158, u159, u160, u161, u162, u163, undef], []⟩ ∧
              St2 wc dn [(0, .pointer (some ⟨pb, 0, none⟩), s98), (1, .string x.1, s99), (2, .int .i64 (j : Nat), s100), (3, .string (x.1.extract 0 j), s101), (4, .pointer (some ⟨pb, 0, none⟩), s102), (5, .string x.1, s103), (6, .int .i64 (j : Nat), s104), (7, .int .u8 bj, s105), (8, .int .i64 by9, s106), (9, .int .u8 (by9 % 256), s107), (10, .int .u8 (bits .xor .u8 bj (by9 % 256)), s108), (12, .string (strOfNums [(bits .xor .u8 bj (by9 % 256))]), s110), (13, .string ((x.1.extract 0 j) ++ (strOfNums [(bits .xor .u8 bj (by9 % 256))])), s111), (14, .pointer (some ⟨pb, 0, none⟩), s112), (15, .string x.1, s113), (16, .int .i64 (j : Nat), s114), (17, .int .i64 ((j : Int) + 1), s115), (18, .string (x.1.extract (j + 1) x.1.size), s116), (19, .string ((x.1.extract 0 j) ++ (strOfNums [(bits .xor .u8 bj (by9 % 256))]) ++ (x.1.extract (j + 1) x.1.size)), s117), (20, .pointer (some ⟨pb, 0, none⟩), s118)] (fun w' => Below W1.heap.size W1 w' ∧ (dn 11 = true → ∃ q, s109 = .slice (some ⟨q, 0, none⟩) 1 1 ∧ W1.heap.size ≤ q ∧ w'.heap[q]? = some (.cells #[.int .u8 (bits .xor .u8 bj (by9 % 256))] 5 (0, 0)))) (fun w' => ∃ wc', Below W1.heap.size W1 wc' ∧ w' = wc'.setCell ⟨pb, 0, none⟩ (.string ((x.1.extract 0 j) ++ (strOfNums [(bits .xor .u8 bj (by9 % 256))]) ++ (x.1.extract (j + 1) x.1.size)))) (fun w' => ∃ wc', Below W1.heap.size W1 wc' ∧ w' = wc'.setCell ⟨pb, 0, none⟩ (.string ((x.1.extract 0 j) ++ (strOfNums [(bits .xor .u8 bj (by9 % 256))]) ++ (x.1.extract (j + 1) x.1.size)))) 21 100 [0, 1, 2, 3, 4, 5, 6, 7, 8, 9, 10, 11, 12, 13, 14, 15, 16, 17, 18, 19, 20] := ⟨_, fun _ _ _ => Iff.rfl⟩
            have HI := Lib.hid hI
            clear hI
            refine wp_region_invC (by kernel_rfl) (by kernel_rfl) I ?_ ?_ ?_
            · exact (HI.out _ _ _).2 ⟨_, _, _, _, _, _, _, _, _, _, _, _, _, _, _, _, _, _, _, _, _, rfl, St2.start _ _ _ _ _ _ _ _ ⟨Below.refl _ _, (fun h => by cases h)⟩ (fun w1 w2 h hb => ⟨h.1.trans (hb.mono h.1.size), (fun h => by cases h)⟩)⟩
            · intro i o dn ac wc ho hd hdep hcl hIn
              obtain ⟨s98, s99, s100, s101, s102, s103, s104, s105, s106, s107, s108, s109, s110, s111, s112, s113, s114, s115, s116, s117, s118, rfl, hT⟩ := (HI.out _ _ _).1 hIn
              clear hIn
              rcases i with _ | _ | _ | _ | _ | _ | _ | _ | _ | _ | _ | _ | _ | _ | _ | _ | _ | _ | _ | _ | _ | _ | i
              · obtain rfl := Option.some.inj ho
                have HT := Lib.hid hT
                clear hT hdep hcl
                refine .inl ?_
                unfold Oper.wp
                go_simp
                exact (HI.out _ _ _).2 ⟨_, _, _, _, _, _, _, _, _, _, _, _, _, _, _, _, _, _, _, _, _, rfl, (HT.out).put 0 0 (.pointer (some ⟨pb, 0, none⟩)) (by decide) rfl⟩
              · obtain rfl := Option.some.inj ho
                have e0 := hT.vals _ (List.Mem.head _) (hdep ⟨0, .data⟩ (by simp) rfl)
                dsimp only at e0
                subst e0
                have hS := hT.at0 1 hd (by decide)
                have l0 := (hS.1.cell (p := ⟨pb, 0, none⟩) hpl).trans b0
                have HT := Lib.hid hT
                clear hT hdep hcl
                clear hS
                refine .inl ?_
                unfold Oper.wp
                go_simp
                exact (HI.out _ _ _).2 ⟨_, _, _, _, _, _, _, _, _, _, _, _, _, _, _, _, _, _, _, _, _, rfl, (HT.out).put 1 1 (.string x.1) (by decide) rfl⟩
              · obtain rfl := Option.some.inj ho
                have HT := Lib.hid hT
                clear hT hdep hcl
                refine .inl ?_
                unfold Oper.wp
                go_simp
                exact (HI.out _ _ _).2 ⟨_, _, _, _, _, _, _, _, _, _, _, _, _, _, _, _, _, _, _, _, _, rfl, (HT.out).put 2 2 (.int .i64 (j : Nat)) (by decide) rfl⟩
              · obtain rfl := Option.some.inj ho
                have e1 := hT.vals _ (List.Mem.tail _ (List.Mem.head _)) (hdep ⟨1, .data⟩ (by simp) rfl)
                dsimp only at e1
                subst e1
                have e2 := hT.vals _ (List.Mem.tail _ (List.Mem.tail _ (List.Mem.head _))) (hdep ⟨2, .data⟩ (by simp) rfl)
                dsimp only at e2
                subst e2
                have HT := Lib.hid hT
                clear hT hdep hcl
                refine .inl ?_
                unfold Oper.wp
                go_simp
                exact (HI.out _ _ _).2 ⟨_, _, _, _, _, _, _, _, _, _, _, _, _, _, _, _, _, _, _, _, _, rfl, (HT.out).put 3 3 (.string (x.1.extract 0 j)) (by decide) rfl⟩
              · obtain rfl := Option.some.inj ho
                have HT := Lib.hid hT
                clear hT hdep hcl
                refine .inl ?_
                unfold Oper.wp
                go_simp
                exact (HI.out _ _ _).2 ⟨_, _, _, _, _, _, _, _, _, _, _, _, _, _, _, _, _, _, _, _, _, rfl, (HT.out).put 4 4 (.pointer (some ⟨pb, 0, none⟩)) (by decide) rfl⟩
              · obtain rfl := Option.some.inj ho
                have e4 := hT.vals _ (List.Mem.tail _ (List.Mem.tail _ (List.Mem.tail _ (List.Mem.tail _ (List.Mem.head _))))) (hdep ⟨4, .data⟩ (by simp) rfl)
                dsimp only at e4
                subst e4
                have hS := hT.at0 5 hd (by decide)
                have l0 := (hS.1.cell (p := ⟨pb, 0, none⟩) hpl).trans b0
                have HT := Lib.hid hT
                clear hT hdep hcl
                clear hS
                refine .inl ?_
                unfold Oper.wp
                go_simp
                exact (HI.out _ _ _).2 ⟨_, _, _, _, _, _, _, _, _, _, _, _, _, _, _, _, _, _, _, _, _, rfl, (HT.out).put 5 5 (.string x.1) (by decide) rfl⟩
              · obtain rfl := Option.some.inj ho
                have HT := Lib.hid hT
                clear hT hdep hcl
                refine .inl ?_
                unfold Oper.wp
                go_simp
                exact (HI.out _ _ _).2 ⟨_, _, _, _, _, _, _, _, _, _, _, _, _, _, _, _, _, _, _, _, _, rfl, (HT.out).put 6 6 (.int .i64 (j : Nat)) (by decide) rfl⟩
              · obtain rfl := Option.some.inj ho
                have e5 := hT.vals _ (List.Mem.tail _ (List.Mem.tail _ (List.Mem.tail _ (List.Mem.tail _ (List.Mem.tail _ (List.Mem.head _)))))) (hdep ⟨5, .data⟩ (by simp) rfl)
                dsimp only at e5
                subst e5
                have e6 := hT.vals _ (List.Mem.tail _ (List.Mem.tail _ (List.Mem.tail _ (List.Mem.tail _ (List.Mem.tail _ (List.Mem.tail _ (List.Mem.head _))))))) (hdep ⟨6, .data⟩ (by simp) rfl)
                dsimp only at e6
                subst e6
                have hix := HIX.out wc
                have HT := Lib.hid hT
                clear hT hdep hcl
                refine .inl ?_
                unfold Oper.wp
                go_simp
                exact (HI.out _ _ _).2 ⟨_, _, _, _, _, _, _, _, _, _, _, _, _, _, _, _, _, _, _, _, _, rfl, (HT.out).put 7 7 (.int .u8 bj) (by decide) rfl⟩
              · obtain rfl := Option.some.inj ho
                have HT := Lib.hid hT
                clear hT hdep hcl
                refine .inl ?_
                unfold Oper.wp
                go_simp
                exact (HI.out _ _ _).2 ⟨_, _, _, _, _, _, _, _, _, _, _, _, _, _, _, _, _, _, _, _, _, rfl, (HT.out).put 8 8 (.int .i64 by9) (by decide) rfl⟩
              · obtain rfl := Option.some.inj ho
                have e8 := hT.vals _ (List.Mem.tail _ (List.Mem.tail _ (List.Mem.tail _ (List.Mem.tail _ (List.Mem.tail _ (List.Mem.tail _ (List.Mem.tail _ (List.Mem.tail _ (List.Mem.head _))))))))) (hdep ⟨8, .data⟩ (by simp) rfl)
                dsimp only at e8
                subst e8
                have HT := Lib.hid hT
                clear hT hdep hcl
                refine .inl ?_
                unfold Oper.wp
                go_simp
                exact (HI.out _ _ _).2 ⟨_, _, _, _, _, _, _, _, _, _, _, _, _, _, _, _, _, _, _, _, _, rfl, (HT.out).put 9 9 (.int .u8 (by9 % 256)) (by decide) rfl⟩
              · obtain rfl := Option.some.inj ho
                have e7 := hT.vals _ (List.Mem.tail _ (List.Mem.tail _ (List.Mem.tail _ (List.Mem.tail _ (List.Mem.tail _ (List.Mem.tail _ (List.Mem.tail _ (List.Mem.head _)))))))) (hdep ⟨7, .data⟩ (by simp) rfl)
                dsimp only at e7
                subst e7
                have e9 := hT.vals _ (List.Mem.tail _ (List.Mem.tail _ (List.Mem.tail _ (List.Mem.tail _ (List.Mem.tail _ (List.Mem.tail _ (List.Mem.tail _ (List.Mem.tail _ (List.Mem.tail _ (List.Mem.head _)))))))))) (hdep ⟨9, .data⟩ (by simp) rfl)
                dsimp only at e9
                subst e9
                have HT := Lib.hid hT
                clear hT hdep hcl
                refine .inl ?_
                unfold Oper.wp
                go_simp
                exact (HI.out _ _ _).2 ⟨_, _, _, _, _, _, _, _, _, _, _, _, _, _, _, _, _, _, _, _, _, rfl, (HT.out).put 10 10 (.int .u8 (bits .xor .u8 bj (by9 % 256))) (by decide) rfl⟩
              · obtain rfl := Option.some.inj ho
                have e10 := hT.vals _ (List.Mem.tail _ (List.Mem.tail _ (List.Mem.tail _ (List.Mem.tail _ (List.Mem.tail _ (List.Mem.tail _ (List.Mem.tail _ (List.Mem.tail _ (List.Mem.tail _ (List.Mem.tail _ (List.Mem.head _))))))))))) (hdep ⟨10, .data⟩ (by simp) rfl)
                dsimp only at e10
                subst e10
                have hS := hT.at0 11 hd (by decide)
                have h0 := H0.out wc hS.1
                have hnew := Lib.hid (And.intro h0.1 h0.2)
                clear h0
                have HT := Lib.hid hT
                have HD := Lib.hid hd
                clear hT hdep hcl hd hS
                refine .inl ?_
                unfold Oper.wp
                go_simp
                exact (HI.out _ _ _).2 ⟨_, _, _, _, _, _, _, _, _, _, _, _, _, _, _, _, _, _, _, _, _, rfl, HT.out.midW 11 HD.out (by decide) (by decide) rfl hnew.out⟩
              · obtain rfl := Option.some.inj ho
                have hS := hT.at0 12 hd (by decide)
                have d11 := hdep ⟨11, .data⟩ (by simp) rfl
                obtain ⟨hSb, hSq⟩ := hS
                obtain ⟨q, rfl, hq1, hq2⟩ := hSq d11
                have hcv := conv_block q _ wc hq2
                clear hSb hSq hq1 hq2
                have hS := True.intro
                have HT := Lib.hid hT
                clear hT hdep hcl
                clear hS
                refine .inl ?_
                unfold Oper.wp
                go_simp
                exact (HI.out _ _ _).2 ⟨_, _, _, _, _, _, _, _, _, _, _, _, _, _, _, _, _, _, _, _, _, rfl, (HT.out).put 12 11 (.string (strOfNums [(bits .xor .u8 bj (by9 % 256))])) (by decide) rfl⟩
              · obtain rfl := Option.some.inj ho
                have e3 := hT.vals _ (List.Mem.tail _ (List.Mem.tail _ (List.Mem.tail _ (List.Mem.head _)))) (hdep ⟨3, .data⟩ (by simp) rfl)
                dsimp only at e3
                subst e3
                have e12 := hT.vals _ (List.Mem.tail _ (List.Mem.tail _ (List.Mem.tail _ (List.Mem.tail _ (List.Mem.tail _ (List.Mem.tail _ (List.Mem.tail _ (List.Mem.tail _ (List.Mem.tail _ (List.Mem.tail _ (List.Mem.tail _ (List.Mem.head _)))))))))))) (hdep ⟨12, .data⟩ (by simp) rfl)
                dsimp only at e12
                subst e12
                have HT := Lib.hid hT
                clear hT hdep hcl
                refine .inl ?_
                unfold Oper.wp
                go_simp
                exact (HI.out _ _ _).2 ⟨_, _, _, _, _, _, _, _, _, _, _, _, _, _, _, _, _, _, _, _, _, rfl, (HT.out).put 13 12 (.string ((x.1.extract 0 j) ++ (strOfNums [(bits .xor .u8 bj (by9 % 256))]))) (by decide) rfl⟩
              · obtain rfl := Option.some.inj ho
                have HT := Lib.hid hT
                clear hT hdep hcl
                refine .inl ?_
                unfold Oper.wp
                go_simp
                exact (HI.out _ _ _).2 ⟨_, _, _, _, _, _, _, _, _, _, _, _, _, _, _, _, _, _, _, _, _, rfl, (HT.out).put 14 13 (.pointer (some ⟨pb, 0, none⟩)) (by decide) rfl⟩
              · obtain rfl := Option.some.inj ho
                have e14 := hT.vals _ (List.Mem.tail _ (List.Mem.tail _ (List.Mem.tail _ (List.Mem.tail _ (List.Mem.tail _ (List.Mem.tail _ (List.Mem.tail _ (List.Mem.tail _ (List.Mem.tail _ (List.Mem.tail _ (List.Mem.tail _ (List.Mem.tail _ (List.Mem.tail _ (List.Mem.head _)))))))))))))) (hdep ⟨14, .data⟩ (by simp) rfl)
                dsimp only at e14
                subst e14
                have hS := hT.at0 15 hd (by decide)
                have l0 := (hS.1.cell (p := ⟨pb, 0, none⟩) hpl).trans b0
                have HT := Lib.hid hT
                clear hT hdep hcl
                clear hS
                refine .inl ?_
                unfold Oper.wp
                go_simp
                exact (HI.out _ _ _).2 ⟨_, _, _, _, _, _, _, _, _, _, _, _, _, _, _, _, _, _, _, _, _, rfl, (HT.out).put 15 14 (.string x.1) (by decide) rfl⟩
              · obtain rfl := Option.some.inj ho
                have HT := Lib.hid hT
                clear hT hdep hcl
                refine .inl ?_
                unfold Oper.wp
                go_simp
                exact (HI.out _ _ _).2 ⟨_, _, _, _, _, _, _, _, _, _, _, _, _, _, _, _, _, _, _, _, _, rfl, (HT.out).put 16 15 (.int .i64 (j : Nat)) (by decide) rfl⟩
              · obtain rfl := Option.some.inj ho
                have e16 := hT.vals _ (List.Mem.tail _ (List.Mem.tail _ (List.Mem.tail _ (List.Mem.tail _ (List.Mem.tail _ (List.Mem.tail _ (List.Mem.tail _ (List.Mem.tail _ (List.Mem.tail _ (List.Mem.tail _ (List.Mem.tail _ (List.Mem.tail _ (List.Mem.tail _ (List.Mem.tail _ (List.Mem.tail _ (List.Mem.head _)))))))))))))))) (hdep ⟨16, .data⟩ (by simp) rfl)
                dsimp only at e16
                subst e16
                have HT := Lib.hid hT
                clear hT hdep hcl
                refine .inl ?_
                unfold Oper.wp
                go_simp
                exact (HI.out _ _ _).2 ⟨_, _, _, _, _, _, _, _, _, _, _, _, _, _, _, _, _, _, _, _, _, rfl, (HT.out).put 17 16 (.int .i64 ((j : Int) + 1)) (by decide) rfl⟩
              · obtain rfl := Option.some.inj ho
                have e15 := hT.vals _ (List.Mem.tail _ (List.Mem.tail _ (List.Mem.tail _ (List.Mem.tail _ (List.Mem.tail _ (List.Mem.tail _ (List.Mem.tail _ (List.Mem.tail _ (List.Mem.tail _ (List.Mem.tail _ (List.Mem.tail _ (List.Mem.tail _ (List.Mem.tail _ (List.Mem.tail _ (List.Mem.head _))))))))))))))) (hdep ⟨15, .data⟩ (by simp) rfl)
                dsimp only at e15
                subst e15
                have e17 := hT.vals _ (List.Mem.tail _ (List.Mem.tail _ (List.Mem.tail _ (List.Mem.tail _ (List.Mem.tail _ (List.Mem.tail _ (List.Mem.tail _ (List.Mem.tail _ (List.Mem.tail _ (List.Mem.tail _ (List.Mem.tail _ (List.Mem.tail _ (List.Mem.tail _ (List.Mem.tail _ (List.Mem.tail _ (List.Mem.tail _ (List.Mem.head _))))))))))))))))) (hdep ⟨17, .data⟩ (by simp) rfl)
                dsimp only at e17
                subst e17
                have HT := Lib.hid hT
                clear hT hdep hcl
                refine .inl ?_
                unfold Oper.wp
                go_simp
                exact (HI.out _ _ _).2 ⟨_, _, _, _, _, _, _, _, _, _, _, _, _, _, _, _, _, _, _, _, _, rfl, (HT.out).put 18 17 (.string (x.1.extract (j + 1) x.1.size)) (by decide) rfl⟩
              · obtain rfl := Option.some.inj ho
                have e13 := hT.vals _ (List.Mem.tail _ (List.Mem.tail _ (List.Mem.tail _ (List.Mem.tail _ (List.Mem.tail _ (List.Mem.tail _ (List.Mem.tail _ (List.Mem.tail _ (List.Mem.tail _ (List.Mem.tail _ (List.Mem.tail _ (List.Mem.tail _ (List.Mem.head _))))))))))))) (hdep ⟨13, .data⟩ (by simp) rfl)
                dsimp only at e13
                subst e13
                have e18 := hT.vals _ (List.Mem.tail _ (List.Mem.tail _ (List.Mem.tail _ (List.Mem.tail _ (List.Mem.tail _ (List.Mem.tail _ (List.Mem.tail _ (List.Mem.tail _ (List.Mem.tail _ (List.Mem.tail _ (List.Mem.tail _ (List.Mem.tail _ (List.Mem.tail _ (List.Mem.tail _ (List.Mem.tail _ (List.Mem.tail _ (List.Mem.tail _ (List.Mem.head _)))))))))))))))))) (hdep ⟨18, .data⟩ (by simp) rfl)
                dsimp only at e18
                subst e18
                have HT := Lib.hid hT
                clear hT hdep hcl
                refine .inl ?_
                unfold Oper.wp
                go_simp
                exact (HI.out _ _ _).2 ⟨_, _, _, _, _, _, _, _, _, _, _, _, _, _, _, _, _, _, _, _, _, rfl, (HT.out).put 19 18 (.string ((x.1.extract 0 j) ++ (strOfNums [(bits .xor .u8 bj (by9 % 256))]) ++ (x.1.extract (j + 1) x.1.size))) (by decide) rfl⟩
              · obtain rfl := Option.some.inj ho
                have HT := Lib.hid hT
                clear hT hdep hcl
                refine .inl ?_
                unfold Oper.wp
                go_simp
                exact (HI.out _ _ _).2 ⟨_, _, _, _, _, _, _, _, _, _, _, _, _, _, _, _, _, _, _, _, _, rfl, (HT.out).put 20 19 (.pointer (some ⟨pb, 0, none⟩)) (by decide) rfl⟩
              · obtain rfl := Option.some.inj ho
                have e20 := hT.vals _ (List.Mem.tail _ (List.Mem.tail _ (List.Mem.tail _ (List.Mem.tail _ (List.Mem.tail _ (List.Mem.tail _ (List.Mem.tail _ (List.Mem.tail _ (List.Mem.tail _ (List.Mem.tail _ (List.Mem.tail _ (List.Mem.tail _ (List.Mem.tail _ (List.Mem.tail _ (List.Mem.tail _ (List.Mem.tail _ (List.Mem.tail _ (List.Mem.tail _ (List.Mem.tail _ (List.Mem.head _)))))))))))))))))))) (hdep ⟨20, .data⟩ (by simp) rfl)
                dsimp only at e20
                subst e20
                have e19 := hT.vals _ (List.Mem.tail _ (List.Mem.tail _ (List.Mem.tail _ (List.Mem.tail _ (List.Mem.tail _ (List.Mem.tail _ (List.Mem.tail _ (List.Mem.tail _ (List.Mem.tail _ (List.Mem.tail _ (List.Mem.tail _ (List.Mem.tail _ (List.Mem.tail _ (List.Mem.tail _ (List.Mem.tail _ (List.Mem.tail _ (List.Mem.tail _ (List.Mem.tail _ (List.Mem.head _))))))))))))))))))) (hdep ⟨19, .data⟩ (by simp) rfl)
                dsimp only at e19
                subst e19
                have d20 := hdep ⟨20, .data⟩ (by simp) rfl
                have d0 := hcl 20 _ rfl d20 ⟨0, .phase⟩ (by simp) rfl
                have d1 := hcl 20 _ rfl d20 ⟨1, .phase⟩ (by simp) rfl
                have d2 := hcl 20 _ rfl d20 ⟨2, .phase⟩ (by simp) rfl
                have d3 := hcl 20 _ rfl d20 ⟨3, .phase⟩ (by simp) rfl
                have d4 := hcl 20 _ rfl d20 ⟨4, .phase⟩ (by simp) rfl
                have d5 := hcl 20 _ rfl d20 ⟨5, .phase⟩ (by simp) rfl
                have d6 := hcl 20 _ rfl d20 ⟨6, .phase⟩ (by simp) rfl
                have d7 := hcl 20 _ rfl d20 ⟨7, .phase⟩ (by simp) rfl
                have d8 := hcl 20 _ rfl d20 ⟨8, .phase⟩ (by simp) rfl
                have d9 := hcl 20 _ rfl d20 ⟨9, .phase⟩ (by simp) rfl
                have d10 := hcl 20 _ rfl d20 ⟨10, .phase⟩ (by simp) rfl
                have d11 := hcl 20 _ rfl d20 ⟨11, .phase⟩ (by simp) rfl
                have d12 := hcl 20 _ rfl d20 ⟨12, .phase⟩ (by simp) rfl
                have d13 := hcl 20 _ rfl d20 ⟨13, .phase⟩ (by simp) rfl
                have d14 := hcl 20 _ rfl d20 ⟨14, .phase⟩ (by simp) rfl
                have d15 := hcl 20 _ rfl d20 ⟨15, .phase⟩ (by simp) rfl
                have d16 := hcl 20 _ rfl d20 ⟨16, .phase⟩ (by simp) rfl
                have d17 := hcl 20 _ rfl d20 ⟨17, .phase⟩ (by simp) rfl
                have d18 := hcl 20 _ rfl d20 ⟨18, .phase⟩ (by simp) rfl
                have d19 := hcl 20 _ rfl d20 ⟨19, .phase⟩ (by simp) rfl
                have hpre : ∀ e ∈ [0, 1, 2, 3, 4, 5, 6, 7, 8, 9, 10, 11, 12, 13, 14, 15, 16, 17, 18, 19, 20], dn e = true := by
                  intro e he
                  simp only [List.mem_cons, List.not_mem_nil, or_false] at he
                  rcases he with rfl | rfl | rfl | rfl | rfl | rfl | rfl | rfl | rfl | rfl | rfl | rfl | rfl | rfl | rfl | rfl | rfl | rfl | rfl | rfl | rfl
                  · exact d0
                  · exact d1
                  · exact d2
                  · exact d3
                  · exact d4
                  · exact d5
                  · exact d6
                  · exact d7
                  · exact d8
                  · exact d9
                  · exact d10
                  · exact d11
                  · exact d12
                  · exact d13
                  · exact d14
                  · exact d15
                  · exact d16
                  · exact d17
                  · exact d18
                  · exact d19
                  · exact d20
                have hS := hT.at0 21 hd (by decide)
                have hB := hS.1
                have l0 := (hB.cell (p := ⟨pb, 0, none⟩) hpl).trans b0
                have lf := (hB.frozen (p := ⟨pb, 0, none⟩) hpl).trans f0
                have hnew : Hid (∃ wc', Below W1.heap.size W1 wc' ∧ wc.setCell ⟨pb, 0, none⟩ (.string ((x.1.extract 0 j) ++ (strOfNums [(bits .xor .u8 bj (by9 % 256))]) ++ (x.1.extract (j + 1) x.1.size))) = wc'.setCell ⟨pb, 0, none⟩ (.string ((x.1.extract 0 j) ++ (strOfNums [(bits .xor .u8 bj (by9 % 256))]) ++ (x.1.extract (j + 1) x.1.size)))) := Lib.hid ⟨wc, hB, rfl⟩
                clear hS hB
                have HT := Lib.hid hT
                clear hT hdep hcl
                have hd := Lib.hid hd
                have hpre := Lib.hid hpre
                refine .inl ?_
                unfold Oper.wp
                go_simp
                exact (HI.out _ _ _).2 ⟨_, _, _, _, _, _, _, _, _, _, _, _, _, _, _, _, _, _, _, _, _, rfl, HT.out.fstV hd.out (by decide) hpre.out rfl hnew.out⟩
              · cases ho
            · intro dn ac wc hd hIn
              obtain ⟨s98, s99, s100, s101, s102, s103, s104, s105, s106, s107, s108, s109, s110, s111, s112, s113, s114, s115, s116, s117, s118, rfl, hT⟩ := (HI.out _ _ _).1 hIn
              have hF := Lib.hid (hT.st21 (hd 21 (by decide)))
              clear HI hIn hT hd
              obtain ⟨wc', hwb, hwc⟩ := hF.out
              have hA1 : Below wr.heap.size wr W1 := by rw [HW1.out]; exact (Below.refl _ _).alloc (Nat.le_refl _) _
              have hA2 : Below wr.heap.size wr wc := by rw [hwc]; exact (hA1.trans (hwb.mono hA1.size)).setCell (p := ⟨pb, 0, none⟩) (by rw [HPB.out]; exact Nat.le_refl _) _
              have hR : (x.1.extract 0 j) ++ (strOfNums [(bits .xor .u8 bj (by9 % 256))]) ++ (x.1.extract (j + 1) x.1.size) = spoilS j xc x.1 := by rw [HBE.out, HBJ.out]; exact spoil_eq x.1 j xc hjl
              have hbx9 : wc.heap[pb]? = some (.cells #[.string (spoilS j xc x.1), .int .i64 x.2] 41 (0, 0)) := by rw [hwc, ← hR]; exact heap_setCell_same _ pb 0 _ 41 _ ((hwb.block pb hpl).trans HBXW.out)
              have HBA := Lib.hid hA2
              have HO2 := Lib.hid (HO.out.below hA2)
              have HBX := Lib.hid hbx9
              obtain ⟨hp8, a8, a38, hrr8, _⟩ := HC.out wc (HB.out.trans (hA2.mono (by omega)))
              clear hF hwb hwc hA1 hA2 hR hbx9 hrr8 hz1 hz2 hcj hwj b0 f0 H0 HIX HBJ
              go_wp2_with first
                | (refine wpList_load_row rfl 41 (.tmp 9) rfl pb rfl 41 #[.string (spoilS j xc x.1), .int .i64 x.2] (0, 0) _ HBX.out Tryd.underlying41 rfl HSZ.out ?_)
                | (at_builtin; refine append_kb wc.heap.size rfl rfl _ _ 39 41 2 24 lc lc_length _ rfl (by omega) rfl Tryd.underlying39 info41 (by omega) u7 (runF (rdUpd k (spoilF (j : Nat) xc) xs) k) (spoilS j xc x.1, x.2) _ rfl (lc_one _) rfl rfl HO2.out (by have := HLN.out; omega) ?_; intro g2 cap3 w2 ho2 hk2 hat; have HO9 := Lib.hid ho2; have HA9 := Lib.hid hat; have HB9 := Lib.hid (((Keep.of_below HBA.out _).trans hk2).below' HB.out (by omega) (fun j hj => HF.out j hj)); obtain ⟨hp9, a9, a39, _, _⟩ := HC.out w2 HB9.out; clear ho2 hk2 hat)
              go_roundw
              case rel =>
                have h9 : Rw w2 41 2 lc (.slice (some ⟨g2, 0, none⟩) ((runF (rdUpd k (spoilF (j : Nat) xc) xs) k).length + 1) cap3) (runF (rdUpd k (spoilF (j : Nat) xc) xs) (k + 1)) := by rw [runF_succ, HE.out]; have := HO9.out; rw [List.length_append] at this; exact this
                refine ⟨k + 1, by omega, by go_num, h9, HB9.out, fun j hj => ?_⟩
                rw [foot_slice, List.mem_singleton] at hj
                subst hj
                rcases HA9.out with h8 | h8
                · exact HF.out _ h8
                · have := HBA.out.size
                  omega
              case measure => simp [intOf]; omega
          · have y3 : decide (xc.tmod 256 < 0) = false := decide_eq_false ht
            go_wp2_with fail
            obtain ⟨by9, hby⟩ : ∃ by9 : Int, by9 = (xc.tmod 256) := ⟨_, rfl⟩
            rw [← hby]
            have hbe : by9 % 256 = xc % 256 := by have := Int.mul_tdiv_add_tmod xc 256; omega
            have HBE := Lib.hid hbe
            have hb0 : 0 ≤ by9 ∧ by9 < 256 := by omega
            obtain ⟨pb, hpb⟩ : ∃ pb, pb = wr.heap.size := ⟨_, rfl⟩
            obtain ⟨W1, hW1⟩ : ∃ W1, W1 = wr.alloc (.cells #[.string x.1, .int .i64 x.2] 41) := ⟨_, rfl⟩
            have hbx : W1.heap[pb]? = some (.cells #[.string x.1, .int .i64 x.2] 41 (0, 0)) := by rw [hW1, hpb]; exact heap_alloc_new wr _
            rw [← hW1, ← hpb]
            have hpl : pb < W1.heap.size := (Array.getElem?_eq_some_iff.1 hbx).1
            have b0 : W1.cell? ⟨pb, 0, none⟩ = some (.string x.1) := cell_of_row _ _ 0 _ _ _ hbx
            have f0 : W1.frozen? ⟨pb, 0, none⟩ = false := by simp [World.frozen?, hbx]
            obtain ⟨bj, hbj⟩ : ∃ bj : Int, bj = (ints x.1)[j]?.getD 0 := ⟨_, rfl⟩
            have HIX : Hid (∀ w, (Instr.index 9 (.string x.1) (.int .i64 (j : Nat))).run Tryd.prog w = .ok (.int .u8 bj) w) := fun w => by rw [hbj]; exact index_str x.1 j hjl w
            have HBJ := Lib.hid hbj
            have HPB := Lib.hid hpb
            have HW1 := Lib.hid hW1
            have HBXW := Lib.hid hbx
            clear hby hbe hpb hW1 hbj hbx ht
            have H0 : Hid (∀ w', Below W1.heap.size W1 w' → Below W1.heap.size W1 (w'.alloc (.cells #[.int .u8 (bits .xor .u8 bj (by9 % 256))] 5)) ∧ (true = true → ∃ q, (.slice (some ⟨w'.heap.size, 0, none⟩) 1 1 : Value) = .slice (some ⟨q, 0, none⟩) 1 1 ∧ W1.heap.size ≤ q ∧ (w'.alloc (.cells #[.int .u8 (bits .xor .u8 bj (by9 % 256))] 5)).heap[q]? = some (.cells #[.int .u8 (bits .xor .u8 bj (by9 % 256))] 5 (0, 0)))) := fun w' hb =>
              ⟨hb.alloc hb.size _, fun _ => ⟨_, rfl, hb.size, heap_alloc_new w' _⟩⟩
            have hs2 : (strOfNums [(bits .xor .u8 bj (by9 % 256))]).size = 1 := strOfNums_size _
            have hs1 : (x.1.extract 0 j).size = j := by rw [ByteArray.size_extract]; omega
            have hs12 : (x.1.extract 0 j ++ strOfNums [(bits .xor .u8 bj (by9 % 256))]).size = j + 1 := by rw [ByteArray.size_append, hs1, hs2]
            have hs3 : (x.1.extract (j + 1) x.1.size).size = x.1.size - (j + 1) := by rw [ByteArray.size_extract]; omega
            have hz1 : ¬ 9223372036854775807 < j + (strOfNums [(bits .xor .u8 bj (by9 % 256))]).size := by omega
            have hz2 : ¬ 9223372036854775807 < j + (strOfNums [(bits .xor .u8 bj (by9 % 256))]).size + (x.1.size - (j + 1)) := by omega
            have hcj : 0 ≤ (j : Int) + 1 ∧ (j : Int) + 1 ≤ (x.1.size : Int) := by omega
            have hwj : IntKind.i64.wrap ((j : Int) + 1) = (j : Int) + 1 := wrap_small _ (by omega) (by omega)
            have hjle : j ≤ x.1.size := by omega
            have hj1 : j + 1 ≤ x.1.size := by omega
            clear hs1 hs2 hs12 hs3
            obtain ⟨I, hI⟩ : ∃ I : (Nat → Bool) → Act → World → Prop, ∀ dn ac wc, I dn ac wc ↔ ∃ s98 s99 s100 s101 s102 s103 s104 s105 s106 s107 s108 s109 s110 s111 s112 s113 s114 s115 s116 s117 s118, ac = ⟨#[Value.slice (some { block := g, off := o }) xs.length cap, Value.agg #[Value.string xw, Value.int IntKind.i64 ↑k, Value.int IntKind.i64 ↑j, Value.int IntKind.i64 xc], undef, Value.pointer (some { block := w.heap.size, off := 0 }), Value.slice none 0 0, Value.int IntKind.i64 ↑k, Value.int IntKind.i64 ↑j, u7, Value.int IntKind.i64 ↑k, Value.pointer (some { block := pb, off := 0 }), Value.int IntKind.i64 by9, Value.pointer (some { block := w.heap.size, off := 1 }), Value.pointer (some { block := w.heap.size, off := 1 }), Value.int IntKind.i64 ↑k, Value.pointer (some { block := w.heap.size, off := 1 }), Value.pointer (some { block := w.heap.size, off := 2 }), Value.int IntKind.i64 ↑j, Value.int IntKind.i64 ↑k, Value.bool false, Value.bool false, Value.int IntKind.i64 ↑k, Value.slice (some { block := g, off := o }) xs.length cap, Value.int IntKind.i64 ↑xs.length, Value.bool false, Value.bool false, undef, Value.int IntKind.i64 ↑k, Value.slice (some { block := g, off := o }) xs.length cap, Value.int IntKind.i64 ↑xs.length, Value.bool true, u30, u31, Value.slice (some { block := g, off := o }) xs.length cap, Value.int IntKind.i64 ↑k, Value.pointer (some { block := g, off := o + k * 2 }), Value.agg #[Value.string x.fst, Value.int IntKind.i64 x.snd], Value.pointer (some { block := w.heap.size, off := 0 }), Value.string xw, Value.bool false, Value.bool false, undef, undef, undef, Value.bool false, Value.pointer (some { block := w.heap.size, off := 0 }), Value.string xw, Value.bool false, Value.bool false, undef, undef, Value.bool false, Value.bool false, undef, undef, undef, undef, Value.bool false, u57, u58, u59, u60, u61, u62, u63, u64, u65, u66, u67, u68, u69, u70, Value.pointer (some { block := w.heap.size, off := 0 }), Value.string xw, Value.bool true, Value.bool true, Value.int IntKind.i64 ↑k, Value.int IntKind.i64 ↑k, Value.bool true, Value.bool true, Value.bool true, Value.int IntKind.i64 ↑j, Value.bool true, Value.bool true, Value.bool true, Value.int IntKind.i64 ↑j, Value.pointer (some { block := pb, off := 0 }), Value.string x.fst, Value.int IntKind.i64 ↑x.fst.size, Value.bool true, Value.bool true, Value.pointer (some { block := w.heap.size, off := 1 }), Value.pointer (some { block := w.heap.size, off := 3 }), Value.int IntKind.i64 xc, Value.int IntKind.i64 by9, Value.int IntKind.i64 by9, Value.bool false, u96, u97, s98, s99, s100, s101, s102, s103, s104, s105, s106, s107, s108, s109, s110, s111, s112, s113, s114, s115, s116, s117, s118, u119, u120, u121, u122, u123, u124, u125, u126, u127, u128, u129, u130, u131, u132, u133, u134, u135, u136, u137, u138, u139, u140, u141, u142, u143, u144, u145, u146, u147, u148, u149, u150, u151, u152, u153, u154, u155, u156, u157, u158, u159, u160, u161, u162, u163, undef], []⟩ ∧
              St2 wc dn [(0, .pointer (some ⟨pb, 0, none⟩), s98), (1, .string x.1, s99), (2, .int .i64 (j : Nat), s100), (3, .string (x.1.extract 0 j), s101), (4, .pointer (some ⟨pb, 0, none⟩), s102), (5, .string x.1, s103), (6, .int .i64 (j : Nat), s104), (7, .int .u8 bj, s105), (8, .int .i64 by9, s106), (9, .int .u8 (by9 % 256), s107), (10, .int .u8 (bits .xor .u8 bj (by9 % 256)), s108), (12, .string (strOfNums [(bits .xor .u8 bj (by9 % 256))]), s110), (13, .string ((x.1.extract 0 j) ++ (strOfNums [(bits .xor .u8 bj (by9 % 256))])), s111), (14, .pointer (some ⟨pb, 0, none⟩), s112), (15, .string x.1, s113), (16, .int .i64 (j : Nat), s114), (17, .int .i64 ((j : Int) + 1), s115), (18, .string (x.1.extract (j + 1) x.1.size), s116), (19, .string ((x.1.extract 0 j) ++ (strOfNums [(bits .xor .u8 bj (by9 % 256))]) ++ (x.1.extract (j + 1) x.1.size)), s117), (20, .pointer (some ⟨pb, 0, none⟩), s118)] (fun w' => Below W1.heap.size W1 w' ∧ (dn 11 = true → ∃ q, s109 = .slice (some ⟨q, 0, none⟩) 1 1 ∧ W1.heap.size ≤ q ∧ w'.heap[q]? = some (.cells #[.int .u8 (bits .xor .u8 bj (by9 % 256))] 5 (0, 0)))) (fun w' => ∃ wc', Below W1.heap.size W1 wc' ∧ w' = wc'.setCell ⟨pb, 0, none⟩ (.string ((x.1.extract 0 j) ++ (strOfNums [(bits .xor .u8 bj (by9 % 256))]) ++ (x.1.extract (j + 1) x.1.size)))) (fun w' => ∃ wc', Below W1.heap.size W1 wc' ∧ w' = wc'.setCell ⟨pb, 0, none⟩ (.string ((x.1.extract 0 j) ++ (strOfNums [(bits .xor .u8 bj (by9 % 256))]) ++ (x.1.extract (j + 1) x.1.size)))) 21 100 [0, 1, 2, 3, 4, 5, 6, 7, 8, 9, 10, 11, 12, 13, 14, 15, 16, 17, 18, 19, 20] := ⟨_, fun _ _ _ => Iff.rfl⟩
            have HI := Lib.hid hI
            clear hI
            refine wp_region_invC (by kernel_rfl) (by kernel_rfl) I ?_ ?_ ?_
            · exact (HI.out _ _ _).2 ⟨_, _, _, _, _, _, _, _, _, _, _, _, _, _, _, _, _, _, _, _, _, rfl, St2.start _ _ _ _ _ _ _ _ ⟨Below.refl _ _, (fun h => by cases h)⟩ (fun w1 w2 h hb => ⟨h.1.trans (hb.mono h.1.size), (fun h => by cases h)⟩)⟩
            · intro i o dn ac wc ho hd hdep hcl hIn
              obtain ⟨s98, s99, s100, s101, s102, s103, s104, s105, s106, s107, s108, s109, s110, s111, s112, s113, s114, s115, s116, s117, s118, rfl, hT⟩ := (HI.out _ _ _).1 hIn
              clear hIn
              rcases i with _ | _ | _ | _ | _ | _ | _ | _ | _ | _ | _ | _ | _ | _ | _ | _ | _ | _ | _ | _ | _ | _ | i
              · obtain rfl := Option.some.inj ho
                have HT := Lib.hid hT
                clear hT hdep hcl
                refine .inl ?_
                unfold Oper.wp
                go_simp
                exact (HI.out _ _ _).2 ⟨_, _, _, _, _, _, _, _, _, _, _, _, _, _, _, _, _, _, _, _, _, rfl, (HT.out).put 0 0 (.pointer (some ⟨pb, 0, none⟩)) (by decide) rfl⟩
              · obtain rfl := Option.some.inj ho
                have e0 := hT.vals _ (List.Mem.head _) (hdep ⟨0, .data⟩ (by simp) rfl)
                dsimp only at e0
                subst e0
                have hS := hT.at0 1 hd (by decide)
                have l0 := (hS.1.cell (p := ⟨pb, 0, none⟩) hpl).trans b0
                have HT := Lib.hid hT
                clear hT hdep hcl
                clear hS
                refine .inl ?_
                unfold Oper.wp
                go_simp
                exact (HI.out _ _ _).2 ⟨_, _, _, _, _, _, _, _, _, _, _, _, _, _, _, _, _, _, _, _, _, rfl, (HT.out).put 1 1 (.string x.1) (by decide) rfl⟩
              · obtain rfl := Option.some.inj ho
                have HT := Lib.hid hT
                clear hT hdep hcl
                refine .inl ?_
                unfold Oper.wp
                go_simp
                exact (HI.out _ _ _).2 ⟨_, _, _, _, _, _, _, _, _, _, _, _, _, _, _, _, _, _, _, _, _, rfl, (HT.out).put 2 2 (.int .i64 (j : Nat)) (by decide) rfl⟩
              · obtain rfl := Option.some.inj ho
                have e1 := hT.vals _ (List.Mem.tail _ (List.Mem.head _)) (hdep ⟨1, .data⟩ (by simp) rfl)
                dsimp only at e1
                subst e1
                have e2 := hT.vals _ (List.Mem.tail _ (List.Mem.tail _ (List.Mem.head _))) (hdep ⟨2, .data⟩ (by simp) rfl)
                dsimp only at e2
                subst e2
                have HT := Lib.hid hT
                clear hT hdep hcl
                refine .inl ?_
                unfold Oper.wp
                go_simp
                exact (HI.out _ _ _).2 ⟨_, _, _, _, _, _, _, _, _, _, _, _, _, _, _, _, _, _, _, _, _, rfl, (HT.out).put 3 3 (.string (x.1.extract 0 j)) (by decide) rfl⟩
              · obtain rfl := Option.some.inj ho
                have HT := Lib.hid hT
                clear hT hdep hcl
                refine .inl ?_
                unfold Oper.wp
                go_simp
                exact (HI.out _ _ _).2 ⟨_, _, _, _, _, _, _, _, _, _, _, _, _, _, _, _, _, _, _, _, _, rfl, (HT.out).put 4 4 (.pointer (some ⟨pb, 0, none⟩)) (by decide) rfl⟩
              · obtain rfl := Option.some.inj ho
                have e4 := hT.vals _ (List.Mem.tail _ (List.Mem.tail _ (List.Mem.tail _ (List.Mem.tail _ (List.Mem.head _))))) (hdep ⟨4, .data⟩ (by simp) rfl)
                dsimp only at e4
                subst e4
                have hS := hT.at0 5 hd (by decide)
                have l0 := (hS.1.cell (p := ⟨pb, 0, none⟩) hpl).trans b0
                have HT := Lib.hid hT
                clear hT hdep hcl
                clear hS
                refine .inl ?_
                unfold Oper.wp
                go_simp
                exact (HI.out _ _ _).2 ⟨_, _, _, _, _, _, _, _, _, _, _, _, _, _, _, _, _, _, _, _, _, rfl, (HT.out).put 5 5 (.string x.1) (by decide) rfl⟩
              · obtain rfl := Option.some.inj ho
                have HT := Lib.hid hT
                clear hT hdep hcl
                refine .inl ?_
                unfold Oper.wp
                go_simp
                exact (HI.out _ _ _).2 ⟨_, _, _, _, _, _, _, _, _, _, _, _, _, _, _, _, _, _, _, _, _, rfl, (HT.out).put 6 6 (.int .i64 (j : Nat)) (by decide) rfl⟩
              · obtain rfl := Option.some.inj ho
                have e5 := hT.vals _ (List.Mem.tail _ (List.Mem.tail _ (List.Mem.tail _ (List.Mem.tail _ (List.Mem.tail _ (List.Mem.head _)))))) (hdep ⟨5, .data⟩ (by simp) rfl)
                dsimp only at e5
                subst e5
                have e6 := hT.vals _ (List.Mem.tail _ (List.Mem.tail _ (List.Mem.tail _ (List.Mem.tail _ (List.Mem.tail _ (List.Mem.tail _ (List.Mem.head _))))))) (hdep ⟨6, .data⟩ (by simp) rfl)
                dsimp only at e6
                subst e6
                have hix := HIX.out wc
                have HT := Lib.hid hT
                clear hT hdep hcl
                refine .inl ?_
                unfold Oper.wp
                go_simp
                exact (HI.out _ _ _).2 ⟨_, _, _, _, _, _, _, _, _, _, _, _, _, _, _, _, _, _, _, _, _, rfl, (HT.out).put 7 7 (.int .u8 bj) (by decide) rfl⟩
              · obtain rfl := Option.some.inj ho
                have HT := Lib.hid hT
                clear hT hdep hcl
                refine .inl ?_
                unfold Oper.wp
                go_simp
                exact (HI.out _ _ _).2 ⟨_, _, _, _, _, _, _, _, _, _, _, _, _, _, _, _, _, _, _, _, _, rfl, (HT.out).put 8 8 (.int .i64 by9) (by decide) rfl⟩
              · obtain rfl := Option.some.inj ho
                have e8 := hT.vals _ (List.Mem.tail _ (List.Mem.tail _ (List.Mem.tail _ (List.Mem.tail _ (List.Mem.tail _ (List.Mem.tail _ (List.Mem.tail _ (List.Mem.tail _ (List.Mem.head _))))))))) (hdep ⟨8, .data⟩ (by simp) rfl)
                dsimp only at e8
                subst e8
                have HT := Lib.hid hT
                clear hT hdep hcl
                refine .inl ?_
                unfold Oper.wp
                go_simp
                exact (HI.out _ _ _).2 ⟨_, _, _, _, _, _, _, _, _, _, _, _, _, _, _, _, _, _, _, _, _, rfl, (HT.out).put 9 9 (.int .u8 (by9 % 256)) (by decide) rfl⟩
              · obtain rfl := Option.some.inj ho
                have e7 := hT.vals _ (List.Mem.tail _ (List.Mem.tail _ (List.Mem.tail _ (List.Mem.tail _ (List.Mem.tail _ (List.Mem.tail _ (List.Mem.tail _ (List.Mem.head _)))))))) (hdep ⟨7, .data⟩ (by simp) rfl)
                dsimp only at e7
                subst e7
                have e9 := hT.vals _ (List.Mem.tail _ (List.Mem.tail _ (List.Mem.tail _ (List.Mem.tail _ (List.Mem.tail _ (List.Mem.tail _ (List.Mem.tail _ (List.Mem.tail _ (List.Mem.tail _ (List.Mem.head _)))))))))) (hdep ⟨9, .data⟩ (by simp) rfl)
                dsimp only at e9
                subst e9
                have HT := Lib.hid hT
                clear hT hdep hcl
                refine .inl ?_
                unfold Oper.wp
                go_simp
                exact (HI.out _ _ _).2 ⟨_, _, _, _, _, _, _, _, _, _, _, _, _, _, _, _, _, _, _, _, _, rfl, (HT.out).put 10 10 (.int .u8 (bits .xor .u8 bj (by9 % 256))) (by decide) rfl⟩
              · obtain rfl := Option.some.inj ho
                have e10 := hT.vals _ (List.Mem.tail _ (List.Mem.tail _ (List.Mem.tail _ (List.Mem.tail _ (List.Mem.tail _ (List.Mem.tail _ (List.Mem.tail _ (List.Mem.tail _ (List.Mem.tail _ (List.Mem.tail _ (List.Mem.head _))))))))))) (hdep ⟨10, .data⟩ (by simp) rfl)
                dsimp only at e10
                subst e10
                have hS := hT.at0 11 hd (by decide)
                have h0 := H0.out wc hS.1
                have hnew := Lib.hid (And.intro h0.1 h0.2)
                clear h0
                have HT := Lib.hid hT
                have HD := Lib.hid hd
                clear hT hdep hcl hd hS
                refine .inl ?_
                unfold Oper.wp
                go_simp
                exact (HI.out _ _ _).2 ⟨_, _, _, _, _, _, _, _, _, _, _, _, _, _, _, _, _, _, _, _, _, rfl, HT.out.midW 11 HD.out (by decide) (by decide) rfl hnew.out⟩
              · obtain rfl := Option.some.inj ho
                have hS := hT.at0 12 hd (by decide)
                have d11 := hdep ⟨11, .data⟩ (by simp) rfl
                obtain ⟨hSb, hSq⟩ := hS
                obtain ⟨q, rfl, hq1, hq2⟩ := hSq d11
                have hcv := conv_block q _ wc hq2
                clear hSb hSq hq1 hq2
                have hS := True.intro
                have HT := Lib.hid hT
                clear hT hdep hcl
                clear hS
                refine .inl ?_
                unfold Oper.wp
                go_simp
                exact (HI.out _ _ _).2 ⟨_, _, _, _, _, _, _, _, _, _, _, _, _, _, _, _, _, _, _, _, _, rfl, (HT.out).put 12 11 (.string (strOfNums [(bits .xor .u8 bj (by9 % 256))])) (by decide) rfl⟩
              · obtain rfl := Option.some.inj ho
                have e3 := hT.vals _ (List.Mem.tail _ (List.Mem.tail _ (List.Mem.tail _ (List.Mem.head _)))) (hdep ⟨3, .data⟩ (by simp) rfl)
                dsimp only at e3
                subst e3
                have e12 := hT.vals _ (List.Mem.tail _ (List.Mem.tail _ (List.Mem.tail _ (List.Mem.tail _ (List.Mem.tail _ (List.Mem.tail _ (List.Mem.tail _ (List.Mem.tail _ (List.Mem.tail _ (List.Mem.tail _ (List.Mem.tail _ (List.Mem.head _)))))))))))) (hdep ⟨12, .data⟩ (by simp) rfl)
                dsimp only at e12
                subst e12
                have HT := Lib.hid hT
                clear hT hdep hcl
                refine .inl ?_
                unfold Oper.wp
                go_simp
                exact (HI.out _ _ _).2 ⟨_, _, _, _, _, _, _, _, _, _, _, _, _, _, _, _, _, _, _, _, _, rfl, (HT.out).put 13 12 (.string ((x.1.extract 0 j) ++ (strOfNums [(bits .xor .u8 bj (by9 % 256))]))) (by decide) rfl⟩
              · obtain rfl := Option.some.inj ho
                have HT := Lib.hid hT
                clear hT hdep hcl
                refine .inl ?_
                unfold Oper.wp
                go_simp
                exact (HI.out _ _ _).2 ⟨_, _, _, _, _, _, _, _, _, _, _, _, _, _, _, _, _, _, _, _, _, rfl, (HT.out).put 14 13 (.pointer (some ⟨pb, 0, none⟩)) (by decide) rfl⟩
              · obtain rfl := Option.some.inj ho
                have e14 := hT.vals _ (List.Mem.tail _ (List.Mem.tail _ (List.Mem.tail _ (List.Mem.tail _ (List.Mem.tail _ (List.Mem.tail _ (List.Mem.tail _ (List.Mem.tail _ (List.Mem.tail _ (List.Mem.tail _ (List.Mem.tail _ (List.Mem.tail _ (List.Mem.tail _ (List.Mem.head _)))))))))))))) (hdep ⟨14, .data⟩ (by simp) rfl)
                dsimp only at e14
                subst e14
                have hS := hT.at0 15 hd (by decide)
                have l0 := (hS.1.cell (p := ⟨pb, 0, none⟩) hpl).trans b0
                have HT := Lib.hid hT
                clear hT hdep hcl
                clear hS
                refine .inl ?_
                unfold Oper.wp
                go_simp
                exact (HI.out _ _ _).2 ⟨_, _, _, _, _, _, _, _, _, _, _, _, _, _, _, _, _, _, _, _, _, rfl, (HT.out).put 15 14 (.string x.1) (by decide) rfl⟩
              · obtain rfl := Option.some.inj ho
                have HT := Lib.hid hT
                clear hT hdep hcl
                refine .inl ?_
                unfold Oper.wp
                go_simp
                exact (HI.out _ _ _).2 ⟨_, _, _, _, _, _, _, _, _, _, _, _, _, _, _, _, _, _, _, _, _, rfl, (HT.out).put 16 15 (.int .i64 (j : Nat)) (by decide) rfl⟩
              · obtain rfl := Option.some.inj ho
                have e16 := hT.vals _ (List.Mem.tail _ (List.Mem.tail _ (List.Mem.tail _ (List.Mem.tail _ (List.Mem.tail _ (List.Mem.tail _ (List.Mem.tail _ (List.Mem.tail _ (List.Mem.tail _ (List.Mem.tail _ (List.Mem.tail _ (List.Mem.tail _ (List.Mem.tail _ (List.Mem.tail _ (List.Mem.tail _ (List.Mem.head _)))))))))))))))) (hdep ⟨16, .data⟩ (by simp) rfl)
                dsimp only at e16
                subst e16
                have HT := Lib.hid hT
                clear hT hdep hcl
                refine .inl ?_
                unfold Oper.wp
                go_simp
                exact (HI.out _ _ _).2 ⟨_, _, _, _, _, _, _, _, _, _, _, _, _, _, _, _, _, _, _, _, _, rfl, (HT.out).put 17 16 (.int .i64 ((j : Int) + 1)) (by decide) rfl⟩
              · obtain rfl := Option.some.inj ho
                have e15 := hT.vals _ (List.Mem.tail _ (List.Mem.tail _ (List.Mem.tail _ (List.Mem.tail _ (List.Mem.tail _ (List.Mem.tail _ (List.Mem.tail _ (List.Mem.tail _ (List.Mem.tail _ (List.Mem.tail _ (List.Mem.tail _ (List.Mem.tail _ (List.Mem.tail _ (List.Mem.tail _ (List.Mem.head _))))))))))))))) (hdep ⟨15, .data⟩ (by simp) rfl)
                dsimp only at e15
                subst e15
                have e17 := hT.vals _ (List.Mem.tail _ (List.Mem.tail _ (List.Mem.tail _ (List.Mem.tail _ (List.Mem.tail _ (List.Mem.tail _ (List.Mem.tail _ (List.Mem.tail _ (List.Mem.tail _ (List.Mem.tail _ (List.Mem.tail _ (List.Mem.tail _ (List.Mem.tail _ (List.Mem.tail _ (List.Mem.tail _ (List.Mem.tail _ (List.Mem.head _))))))))))))))))) (hdep ⟨17, .data⟩ (by simp) rfl)
                dsimp only at e17
                subst e17
                have HT := Lib.hid hT
                clear hT hdep hcl
                refine .inl ?_
                unfold Oper.wp
                go_simp
                exact (HI.out _ _ _).2 ⟨_, _, _, _, _, _, _, _, _, _, _, _, _, _, _, _, _, _, _, _, _, rfl, (HT.out).put 18 17 (.string (x.1.extract (j + 1) x.1.size)) (by decide) rfl⟩
              · obtain rfl := Option.some.inj ho
                have e13 := hT.vals _ (List.Mem.tail _ (List.Mem.tail _ (List.Mem.tail _ (List.Mem.tail _ (List.Mem.tail _ (List.Mem.tail _ (List.Mem.tail _ (List.Mem.tail _ (List.Mem.tail _ (List.Mem.tail _ (List.Mem.tail _ (List.Mem.tail _ (List.Mem.head _))))))))))))) (hdep ⟨13, .data⟩ (by simp) rfl)
                dsimp only at e13
                subst e13
                have e18 := hT.vals _ (List.Mem.tail _ (List.Mem.tail _ (List.Mem.tail _ (List.Mem.tail _ (List.Mem.tail _ (List.Mem.tail _ (List.Mem.tail _ (List.Mem.tail _ (List.Mem.tail _ (List.Mem.tail _ (List.Mem.tail _ (List.Mem.tail _ (List.Mem.tail _ (List.Mem.tail _ (List.Mem.tail _ (List.Mem.tail _ (List.Mem.tail _ (List.Mem.head _)))))))))))))))))) (hdep ⟨18, .data⟩ (by simp) rfl)
                dsimp only at e18
                subst e18
                have HT := Lib.hid hT
                clear hT hdep hcl
                refine .inl ?_
                unfold Oper.wp
                go_simp
                exact (HI.out _ _ _).2 ⟨_, _, _, _, _, _, _, _, _, _, _, _, _, _, _, _, _, _, _, _, _, rfl, (HT.out).put 19 18 (.string ((x.1.extract 0 j) ++ (strOfNums [(bits .xor .u8 bj (by9 % 256))]) ++ (x.1.extract (j + 1) x.1.size))) (by decide) rfl⟩
              · obtain rfl := Option.some.inj ho
                have HT := Lib.hid hT
                clear hT hdep hcl
                refine .inl ?_
                unfold Oper.wp
                go_simp
                exact (HI.out _ _ _).2 ⟨_, _, _, _, _, _, _, _, _, _, _, _, _, _, _, _, _, _, _, _, _, rfl, (HT.out).put 20 19 (.pointer (some ⟨pb, 0, none⟩)) (by decide) rfl⟩
              · obtain rfl := Option.some.inj ho
                have e20 := hT.vals _ (List.Mem.tail _ (List.Mem.tail _ (List.Mem.tail _ (List.Mem.tail _ (List.Mem.tail _ (List.Mem.tail _ (List.Mem.tail _ (List.Mem.tail _ (List.Mem.tail _ (List.Mem.tail _ (List.Mem.tail _ (List.Mem.tail _ (List.Mem.tail _ (List.Mem.tail _ (List.Mem.tail _ (List.Mem.tail _ (List.Mem.tail _ (List.Mem.tail _ (List.Mem.tail _ (List.Mem.head _)))))))))))))))))))) (hdep ⟨20, .data⟩ (by simp) rfl)
                dsimp only at e20
                subst e20
                have e19 := hT.vals _ (List.Mem.tail _ (List.Mem.tail _ (List.Mem.tail _ (List.Mem.tail _ (List.Mem.tail _ (List.Mem.tail _ (List.Mem.tail _ (List.Mem.tail _ (List.Mem.tail _ (List.Mem.tail _ (List.Mem.tail _ (List.Mem.tail _ (List.Mem.tail _ (List.Mem.tail _ (List.Mem.tail _ (List.Mem.tail _ (List.Mem.tail _ (List.Mem.tail _ (List.Mem.head _))))))))))))))))))) (hdep ⟨19, .data⟩ (by simp) rfl)
                dsimp only at e19
                subst e19
                have d20 := hdep ⟨20, .data⟩ (by simp) rfl
                have d0 := hcl 20 _ rfl d20 ⟨0, .phase⟩ (by simp) rfl
                have d1 := hcl 20 _ rfl d20 ⟨1, .phase⟩ (by simp) rfl
                have d2 := hcl 20 _ rfl d20 ⟨2, .phase⟩ (by simp) rfl
                have d3 := hcl 20 _ rfl d20 ⟨3, .phase⟩ (by simp) rfl
                have d4 := hcl 20 _ rfl d20 ⟨4, .phase⟩ (by simp) rfl
                have d5 := hcl 20 _ rfl d20 ⟨5, .phase⟩ (by simp) rfl
                have d6 := hcl 20 _ rfl d20 ⟨6, .phase⟩ (by simp) rfl
                have d7 := hcl 20 _ rfl d20 ⟨7, .phase⟩ (by simp) rfl
                have d8 := hcl 20 _ rfl d20 ⟨8, .phase⟩ (by simp) rfl
                have d9 := hcl 20 _ rfl d20 ⟨9, .phase⟩ (by simp) rfl
                have d10 := hcl 20 _ rfl d20 ⟨10, .phase⟩ (by simp) rfl
                have d11 := hcl 20 _ rfl d20 ⟨11, .phase⟩ (by simp) rfl
                have d12 := hcl 20 _ rfl d20 ⟨12, .phase⟩ (by simp) rfl
                have d13 := hcl 20 _ rfl d20 ⟨13, .phase⟩ (by simp) rfl
                have d14 := hcl 20 _ rfl d20 ⟨14, .phase⟩ (by simp) rfl
                have d15 := hcl 20 _ rfl d20 ⟨15, .phase⟩ (by simp) rfl
                have d16 := hcl 20 _ rfl d20 ⟨16, .phase⟩ (by simp) rfl
                have d17 := hcl 20 _ rfl d20 ⟨17, .phase⟩ (by simp) rfl
                have d18 := hcl 20 _ rfl d20 ⟨18, .phase⟩ (by simp) rfl
                have d19 := hcl 20 _ rfl d20 ⟨19, .phase⟩ (by simp) rfl
                have hpre : ∀ e ∈ [0, 1, 2, 3, 4, 5, 6, 7, 8, 9, 10, 11, 12, 13, 14, 15, 16, 17, 18, 19, 20], dn e = true := by
                  intro e he
                  simp only [List.mem_cons, List.not_mem_nil, or_false] at he
                  rcases he with rfl | rfl | rfl | rfl | rfl | rfl | rfl | rfl | rfl | rfl | rfl | rfl | rfl | rfl | rfl | rfl | rfl | rfl | rfl | rfl | rfl
                  · exact d0
                  · exact d1
                  · exact d2
                  · exact d3
                  · exact d4
                  · exact d5
                  · exact d6
                  · exact d7
                  · exact d8
                  · exact d9
                  · exact d10
                  · exact d11
                  · exact d12
                  · exact d13
                  · exact d14
                  · exact d15
                  · exact d16
                  · exact d17
                  · exact d18
                  · exact d19
                  · exact d20
                have hS := hT.at0 21 hd (by decide)
                have hB := hS.1
                have l0 := (hB.cell (p := ⟨pb, 0, none⟩) hpl).trans b0
                have lf := (hB.frozen (p := ⟨pb, 0, none⟩) hpl).trans f0
                have hnew : Hid (∃ wc', Below W1.heap.size W1 wc' ∧ wc.setCell ⟨pb, 0, none⟩ (.string ((x.1.extract 0 j) ++ (strOfNums [(bits .xor .u8 bj (by9 % 256))]) ++ (x.1.extract (j + 1) x.1.size))) = wc'.setCell ⟨pb, 0, none⟩ (.string ((x.1.extract 0 j) ++ (strOfNums [(bits .xor .u8 bj (by9 % 256))]) ++ (x.1.extract (j + 1) x.1.size)))) := Lib.hid ⟨wc, hB, rfl⟩
                clear hS hB
                have HT := Lib.hid hT
                clear hT hdep hcl
                have hd := Lib.hid hd
                have hpre := Lib.hid hpre
                refine .inl ?_
                unfold Oper.wp
                go_simp
                exact (HI.out _ _ _).2 ⟨_, _, _, _, _, _, _, _, _, _, _, _, _, _, _, _, _, _, _, _, _, rfl, HT.out.fstV hd.out (by decide) hpre.out rfl hnew.out⟩
              · cases ho
            · intro dn ac wc hd hIn
              obtain ⟨s98, s99, s100, s101, s102, s103, s104, s105, s106, s107, s108, s109, s110, s111, s112, s113, s114, s115, s116, s117, s118, rfl, hT⟩ := (HI.out _ _ _).1 hIn
              have hF := Lib.hid (hT.st21 (hd 21 (by decide)))
              clear HI hIn hT hd
              obtain ⟨wc', hwb, hwc⟩ := hF.out
              have hA1 : Below wr.heap.size wr W1 := by rw [HW1.out]; exact (Below.refl _ _).alloc (Nat.le_refl _) _
              have hA2 : Below wr.heap.size wr wc := by rw [hwc]; exact (hA1.trans (hwb.mono hA1.size)).setCell (p := ⟨pb, 0, none⟩) (by rw [HPB.out]; exact Nat.le_refl _) _
              have hR : (x.1.extract 0 j) ++ (strOfNums [(bits .xor .u8 bj (by9 % 256))]) ++ (x.1.extract (j + 1) x.1.size) = spoilS j xc x.1 := by rw [HBE.out, HBJ.out]; exact spoil_eq x.1 j xc hjl
              have hbx9 : wc.heap[pb]? = some (.cells #[.string (spoilS j xc x.1), .int .i64 x.2] 41 (0, 0)) := by rw [hwc, ← hR]; exact heap_setCell_same _ pb 0 _ 41 _ ((hwb.block pb hpl).trans HBXW.out)
              have HBA := Lib.hid hA2
              have HO2 := Lib.hid (HO.out.below hA2)
              have HBX := Lib.hid hbx9
              obtain ⟨hp8, a8, a38, hrr8, _⟩ := HC.out wc (HB.out.trans (hA2.mono (by omega)))
              clear hF hwb hwc hA1 hA2 hR hbx9 hrr8 hz1 hz2 hcj hwj b0 f0 H0 HIX HBJ
              go_wp2_with first
                | (refine wpList_load_row rfl 41 (.tmp 9) rfl pb rfl 41 #[.string (spoilS j xc x.1), .int .i64 x.2] (0, 0) _ HBX.out Tryd.underlying41 rfl HSZ.out ?_)
                | (at_builtin; refine append_kb wc.heap.size rfl rfl _ _ 39 41 2 24 lc lc_length _ rfl (by omega) rfl Tryd.underlying39 info41 (by omega) u7 (runF (rdUpd k (spoilF (j : Nat) xc) xs) k) (spoilS j xc x.1, x.2) _ rfl (lc_one _) rfl rfl HO2.out (by have := HLN.out; omega) ?_; intro g2 cap3 w2 ho2 hk2 hat; have HO9 := Lib.hid ho2; have HA9 := Lib.hid hat; have HB9 := Lib.hid (((Keep.of_below HBA.out _).trans hk2).below' HB.out (by omega) (fun j hj => HF.out j hj)); obtain ⟨hp9, a9, a39, _, _⟩ := HC.out w2 HB9.out; clear ho2 hk2 hat)
              go_roundw
              case rel =>
                have h9 : Rw w2 41 2 lc (.slice (some ⟨g2, 0, none⟩) ((runF (rdUpd k (spoilF (j : Nat) xc) xs) k).length + 1) cap3) (runF (rdUpd k (spoilF (j : Nat) xc) xs) (k + 1)) := by rw [runF_succ, HE.out]; have := HO9.out; rw [List.length_append] at this; exact this
                refine ⟨k + 1, by omega, by go_num, h9, HB9.out, fun j hj => ?_⟩
                rw [foot_slice, List.mem_singleton] at hj
                subst hj
                rcases HA9.out with h8 | h8
                · exact HF.out _ h8
                · have := HBA.out.size
                  omega
              case measure => simp [intOf]; omega
        · have HE : Hid (rdUpd k (spoilF xb xc) xs k = [(x.1, x.2)]) := by show _ = _; unfold rdUpd; rw [if_pos rfl, hxg]; unfold spoilF; rw [if_neg hb]
          have HBA := Lib.hid ((Below.refl wr.heap.size wr).alloc (Nat.le_refl _) (.cells #[.string x.1, .int .i64 x.2] 41))
          have HO2 := Lib.hid (HO.out.below HBA.out)
          have HBX := Lib.hid (heap_alloc_new wr (.cells #[.string x.1, .int .i64 x.2] 41))
          clear hxg
          by_cases hb0 : 0 ≤ xb
          · have y1 : decide (xb < (x.1.size : Int)) = false := decide_eq_false (fun h => hb (by unfold inn; omega))
            have y2 : decide (0 ≤ xb) = true := decide_eq_true hb0
            clear hb
            go_wp2_with first
              | (refine wpList_load_row rfl 41 (.tmp 9) rfl wr.heap.size rfl 41 #[.string x.1, .int .i64 x.2] (0, 0) _ HBX.out Tryd.underlying41 rfl HSZ.out ?_)
              | (at_builtin; refine append_kb (wr.heap.size + 1) (by simp) rfl _ _ 39 41 2 24 lc lc_length _ rfl (by omega) rfl Tryd.underlying39 info41 (by omega) u7 (runF (rdUpd k (spoilF xb xc) xs) k) (x.1, x.2) _ rfl (lc_one _) rfl rfl HO2.out (by have := HLN.out; omega) ?_; intro g2 cap3 w2 ho2 hk2 hat; have HO9 := Lib.hid ho2; have HK9 := Lib.hid hk2; have HA9 := Lib.hid hat; have HB9 := Lib.hid (((Keep.of_below HBA.out _).trans hk2).below' HB.out (by omega) (fun j hj => HF.out j hj)); obtain ⟨hp9, a9, a39, _, _⟩ := HC.out w2 HB9.out; clear ho2 hk2 hat)
            go_roundw
            case rel =>
              have h9 : Rw w2 41 2 lc (.slice (some ⟨g2, 0, none⟩) ((runF (rdUpd k (spoilF xb xc) xs) k).length + 1) cap3) (runF (rdUpd k (spoilF xb xc) xs) (k + 1)) := by rw [runF_succ, HE.out]; have := HO9.out; rw [List.length_append] at this; exact this
              refine ⟨k + 1, by omega, by go_num, h9, HB9.out, fun j hj => ?_⟩
              rw [foot_slice, List.mem_singleton] at hj
              subst hj
              rcases HA9.out with h8 | h8
              · exact HF.out _ h8
              · have := HBA.out.size
                omega
            case measure => simp [intOf]; omega
          · have y2 : decide (0 ≤ xb) = false := decide_eq_false hb0
            clear hb
            go_wp2_with first
              | (refine wpList_load_row rfl 41 (.tmp 9) rfl wr.heap.size rfl 41 #[.string x.1, .int .i64 x.2] (0, 0) _ HBX.out Tryd.underlying41 rfl HSZ.out ?_)
              | (at_builtin; refine append_kb (wr.heap.size + 1) (by simp) rfl _ _ 39 41 2 24 lc lc_length _ rfl (by omega) rfl Tryd.underlying39 info41 (by omega) u7 (runF (rdUpd k (spoilF xb xc) xs) k) (x.1, x.2) _ rfl (lc_one _) rfl rfl HO2.out (by have := HLN.out; omega) ?_; intro g2 cap3 w2 ho2 hk2 hat; have HO9 := Lib.hid ho2; have HK9 := Lib.hid hk2; have HA9 := Lib.hid hat; have HB9 := Lib.hid (((Keep.of_below HBA.out _).trans hk2).below' HB.out (by omega) (fun j hj => HF.out j hj)); obtain ⟨hp9, a9, a39, _, _⟩ := HC.out w2 HB9.out; clear ho2 hk2 hat)
            go_roundw
            case rel =>
              have h9 : Rw w2 41 2 lc (.slice (some ⟨g2, 0, none⟩) ((runF (rdUpd k (spoilF xb xc) xs) k).length + 1) cap3) (runF (rdUpd k (spoilF xb xc) xs) (k + 1)) := by rw [runF_succ, HE.out]; have := HO9.out; rw [List.length_append] at this; exact this
              refine ⟨k + 1, by omega, by go_num, h9, HB9.out, fun j hj => ?_⟩
              rw [foot_slice, List.mem_singleton] at hj
              subst hj
              rcases HA9.out with h8 | h8
              · exact HF.out _ h8
              · have := HBA.out.size
                omega
            case measure => simp [intOf]; omega
      · obtain ⟨n1, n2⟩ := ne_facts hki
        have HBA := Lib.hid ((Below.refl wr.heap.size wr).alloc (Nat.le_refl _) (.cells #[.string x.1, .int .i64 x.2] 41))
        have HO2 := Lib.hid (HO.out.below HBA.out)
        have HBX := Lib.hid (heap_alloc_new wr (.cells #[.string x.1, .int .i64 x.2] 41))
        have HE : Hid (rdUpd i (spoilF xb xc) xs k = [(x.1, x.2)]) := by show _ = _; unfold rdUpd; rw [if_neg hki, hxg]
        clear hki hxg
        go_wp2_with first
          | (refine wpList_load_row rfl 41 (.tmp 9) rfl wr.heap.size rfl 41 #[.string x.1, .int .i64 x.2] (0, 0) _ HBX.out Tryd.underlying41 rfl HSZ.out ?_)
          | (at_builtin; refine append_kb (wr.heap.size + 1) (by simp) rfl _ _ 39 41 2 24 lc lc_length _ rfl (by omega) rfl Tryd.underlying39 info41 (by omega) u7 (runF (rdUpd i (spoilF xb xc) xs) k) (x.1, x.2) _ rfl (lc_one _) rfl rfl HO2.out (by have := HLN.out; omega) ?_; intro g2 cap3 w2 ho2 hk2 hat; have HO9 := Lib.hid ho2; have HK9 := Lib.hid hk2; have HA9 := Lib.hid hat; have HB9 := Lib.hid (((Keep.of_below HBA.out _).trans hk2).below' HB.out (by omega) (fun j hj => HF.out j hj)); obtain ⟨hp9, a9, a39, _, _⟩ := HC.out w2 HB9.out; clear ho2 hk2 hat)
        go_roundw
        case rel =>
          have h9 : Rw w2 41 2 lc (.slice (some ⟨g2, 0, none⟩) ((runF (rdUpd i (spoilF xb xc) xs) k).length + 1) cap3) (runF (rdUpd i (spoilF xb xc) xs) (k + 1)) := by rw [runF_succ, HE.out]; have := HO9.out; rw [List.length_append] at this; exact this
          refine ⟨k + 1, by omega, by go_num, h9, HB9.out, fun j hj => ?_⟩
          rw [foot_slice, List.mem_singleton] at hj
          subst hj
          rcases HA9.out with h8 | h8
          · exact HF.out _ h8
          · have := HBA.out.size
            omega
        case measure => simp [intOf]; omega
    · have he : k = xs.length := by omega
      subst he
      obtain ⟨sa, sc, hs3⟩ := HO.out.shape
      have HS3 := Lib.hid hs3
      clear hs3
      go_wp2_with fail
      go_ret
      exact ⟨_, rfl, HO.out.read lc_length, HBW.out⟩
end Go.Proofs.YthoemgiadadfcaaDoor
