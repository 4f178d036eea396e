/- Acts written: the walk of Write. -/
import Derived.Test.YthoemgiadadfcaaDoorRdBuild
import Derived.Test.YthoemgiadadfcaaDoorRegC
set_option linter.unusedVariables false
set_option linter.unusedSimpArgs false
namespace Go.Proofs.YthoemgiadadfcaaDoor
open Go.RowKit Go.Sort Rd
attribute [local go_sem] Oper.semAt_some
set_option maxRecDepth 100000 in
theorem slice3 (p nm : Nat) (h : nm ≤ 3) (w : World) : (Instr.sliceAt 27 (.pointer (some ⟨p, 1, none⟩)) none (some (.int .i64 (nm : Nat))) none).run Tryd.prog w = .ok (.slice (some ⟨p, 1, none⟩) nm 3) w := by
  have h3 : Tryd.prog.arrayLen 27 = 3 := by kernel_rfl
  have he : Tryd.prog.underlying 27 = some (.array (Tryd.prog.arrayLen 27) (Tryd.prog.elem 27)) := by kernel_rfl
  have := run_sliceAt_array_h w 27 ⟨p, 1, none⟩ he .i64 (nm : Int) (by omega) (by rw [h3]; omega)
  rw [this, show Tryd.prog.elem 27 = 3 by kernel_rfl, Tryd.sizeOf3, h3]
  rw [show (({ block := p, off := 1 } : Addr)) = ⟨p, 1, none⟩ from rfl] at *
  simp [Result.andThen, slicedAt, Go.WideShapes.add_plain]
theorem sp_str_data (a : List UInt8) : ((⟨#[32]⟩ : ByteArray) ++ str a).data.toList = 32 :: a := by
  rw [show (⟨#[32]⟩ : ByteArray) = str [32] from rfl, str_append]; rfl
theorem sp_str_size (a : List UInt8) : ((⟨#[32]⟩ : ByteArray) ++ str a).size = a.length + 1 := by
  rw [show (⟨#[32]⟩ : ByteArray) = str [32] from rfl, str_append, str_size]; simp
set_option maxRecDepth 100000 in
set_option maxHeartbeats 1600000 in
theorem write_bad (v : Value) (l : List Ac) (w : World) (h : Rr w 4 ac v l) (hn : l.length ≤ 10000) (hw : wrs l ≠ 0) :
    Calls Tryd.prog 16 #[v] w fun e w' => e = .returned (.tuple #[.string ⟨#[]⟩, .int .i64 (wrs l)]) ∧ Below w.heap.size w w' := by
  have hq := right_is v l w h (by omega)
  have hw0 : (wrs l != 0) = true := by simpa using hw
  clear hw h
  go_enter Tryd.func16, Tryd.ntmps16
  go_wp2_with (go_at_call 14; (with_reducible refine hq.mono ?_); rintro e w1 ⟨rfl, hb1⟩; clear hq)
  go_ret2
  exact ⟨rfl, hb1⟩
set_option maxRecDepth 100000 in
set_option maxHeartbeats 1600000 in
theorem write_ok (v : Value) (l : List Ac) (w : World) (h : Rr w 4 ac v l) (hn : l.length ≤ 10000) (hw : wrs l = 0) :
    Calls Tryd.prog 16 #[v] w fun e w' => e = .returned (.tuple #[.string (str (writeL l)), .int .i64 0]) ∧ Below w.heap.size w w' := by
  have hq : Calls Tryd.prog 14 #[v] w fun e w' => e = .returned (.int .i64 0) ∧ Below w.heap.size w w' := by have := right_is v l w h (by omega); rw [hw] at this; exact this
  have HW := Lib.hid (wrs_all l hw)
  obtain ⟨a, cap, rfl, hx⟩ := h
  have HX := Lib.hid (show Rr w 4 ac (.slice a l.length cap) l from ⟨a, cap, rfl, hx⟩)
  clear hx hw
  go_enter Tryd.func16, Tryd.ntmps16
  go_wp2_with (go_at_call 14; (with_reducible refine hq.mono ?_); rintro e w1 ⟨rfl, hb1⟩; have HB1 := Lib.hid hb1; clear hq hb1)
  obtain ⟨b, hb⟩ : ∃ b, b = w1.heap.size := ⟨_, rfl⟩
  have HBF := Lib.hid (BF.new w1)
  have HBB := Lib.hid ((Below.refl w1.heap.size w1).alloc (Nat.le_refl _) (.cells #[.pointer none, .slice none 0 0] 64))
  rw [← hb] at HBF HBB ⊢
  have HBE := Lib.hid hb
  clear hb
  go_loopw [17] (fun i wr => ∃ k : Nat, k ≤ l.length ∧ i = .int .i64 k ∧ BF b (writeL (l.take k)) wr ∧ Below b w1 wr) (fun i _ => l.length - (intOf i).toNat)
  case atStart => exact ⟨0, Nat.zero_le _, rfl, HBF.out, HBB.out⟩
  case round =>
    obtain ⟨k, hk, rfl, hbf, hbw⟩ := hrel
    generalize wr = wo at *
    have HF := Lib.hid hbf
    have HW2 := Lib.hid hbw
    clear hbf hbw
    have HXW : Hid (Rr wo 4 ac (.slice a l.length cap) l) := by
      have h1 := HW2.out
      rw [HBE.out] at h1
      exact (HX.out.below HB1.out).below h1
    by_cases hlt : k < l.length
    · obtain ⟨g, o, rfl, hg, x, hx, hc⟩ := HXW.out.at_ k hlt
      obtain ⟨c0, c1, c2, c3⟩ := ac_cells hc
      have HXK := Lib.hid hx
      have hwx := HW.out x (List.mem_of_getElem? hx)
      have HNB := Lib.hid (fun j (hj : j < 3) => wrg_num hwx j hj)
      have hLl := writeL_len (l.take k) (fun y hy => HW.out y (List.mem_of_mem_take hy))
      rw [List.length_take] at hLl
      obtain ⟨nm, hnm⟩ : ∃ nm, nm = nums (kd x.w) := ⟨_, rfl⟩
      have hnm3 : nm ≤ 3 := by rw [hnm]; exact nums_le _
      have HDV : Hid (dv (kd x.w) = .agg #[.int .i64 (nm : Nat), dF (kd x.w)]) := by rw [hnm]; exact dv_eq _
      have hxs := kd_size (wrg_ok hwx).1
      have HLW : Hid (lineW x = x.w.data.toList ++ numB x nm ++ [10]) := by rw [hnm]; rfl
      have hnl : ∀ j, j ≤ 3 → (numB x j).length ≤ 54 := fun j hj => by have := numB_len hwx j hj; omega
      have HNL := Lib.hid hnl
      clear hx hc hwx hnm hnl
      obtain ⟨xw, xa, xb, xc⟩ := x
      obtain ⟨pre, hpre⟩ : ∃ pre, pre = writeL (l.take k) := ⟨_, rfl⟩
      rw [← hpre] at HF hLl
      have HPRE := Lib.hid hpre
      clear hpre
      have hpl : pre.length ≤ 600000 := by omega
      have HPL := Lib.hid hpl
      clear hLl hpl
      go_wp2_with (go_at_call 21; (with_reducible refine (wstr_is b pre xw _ (HF.out.below ((Below.refl _ _).alloc (Nat.le_refl _) _)) (by have := HPL.out; simp only at hxs; omega)).mono ?_); rintro e w2 ⟨rfl, hbf, hbw, hok⟩)
      obtain ⟨p, hp⟩ : ∃ p, p = wo.heap.size := ⟨_, rfl⟩
      have hpb : b ≠ p := by have := HF.out.lt; omega
      have hbx := hok p (.cells #[.string xw, .int .i64 xa, .int .i64 xb, .int .i64 xc] 50 (0, 0)) (by rw [hp]; exact heap_alloc_new wo _) (fun e => hpb (by cases e; rfl)) (fun c fz e => by cases e)
      have hbwr : Below b wo w2 := ((Below.refl b wo).alloc (Nat.le_of_lt HF.out.lt) _).trans hbw
      rw [← hp]
      obtain ⟨W1, hW1⟩ : ∃ W1, W1 = w2 := ⟨_, rfl⟩
      rw [← hW1] at hbf hbx hbwr ⊢
      have hpl : p < W1.heap.size := (Array.getElem?_eq_some_iff.1 hbx).1
      have b0 : W1.cell? ⟨p, 0, none⟩ = some (.string xw) := cell_of_row _ _ 0 _ _ _ hbx
      have HBX := Lib.hid hbx
      have HBF1 := Lib.hid hbf
      have HBW1 := Lib.hid hbwr
      have HPB := Lib.hid hpb
      have HKS := Lib.hid hxs
      clear hbx hbf hbwr hbw hok hW1 hp hg hpb c0 c1 c2 c3 hxs
      obtain ⟨I, hI⟩ : ∃ I : (Nat → Bool) → Act → World → Prop, ∀ dn ac wc, I dn ac wc ↔ ∃ s24 s25 s26 s27 s28 s29 s30 s31 s32, ac = ⟨#[.slice (some ⟨g, o, none⟩) l.length cap, undef, .string ⟨#[]⟩, .int .i64 0, .int .i64 0, .pointer (some ⟨b, 0, none⟩), undef, .pointer (some ⟨p, 0, none⟩), undef, u9, .slice (some ⟨g, o, none⟩) l.length cap, .int .i64 0, .int .i64 0, .bool false, undef, .slice (some ⟨g, o, none⟩) l.length cap, .int .i64 (l.length : Nat), .int .i64 (k : Nat), .bool true, .pointer (some ⟨g, o + k * 4, none⟩), .agg #[.string xw, .int .i64 xa, .int .i64 xb, .int .i64 xc], .pointer (some ⟨p, 0, none⟩), .string xw, .tuple #[.int .i64 (xw.size : Nat), .nilIface], s24, s25, s26, s27, s28, s29, s30, s31, s32, u33, u34, u35, u36, u37, u38, u39, u40, u41, u42, undef], []⟩ ∧
        St2 wc dn [(0, .pointer (some ⟨p, 1, none⟩), s24), (2, .pointer (some ⟨p, 0, none⟩), s26), (3, .string xw, s27), (4, .agg #[.int .i64 (nm : Nat), dF (kd xw)], s28), (5, .int .i64 (nm : Nat), s29), (6, .slice (some ⟨p, 1, none⟩) nm 3, s30), (7, .int .i64 (nm : Nat), s31), (8, .int .i64 0, s32)] (fun w' => Below W1.heap.size W1 w') (fun w' => Below W1.heap.size W1 w' ∧ ∃ r, s25 = .map (some r) ∧ w'.heap[r]? = some (.map ES 5)) (fun w' => Below W1.heap.size W1 w' ∧ ∃ r, s25 = .map (some r) ∧ w'.heap[r]? = some (.map ES 5)) 1 100 [] := ⟨_, fun _ _ _ => Iff.rfl⟩
      have HI := Lib.hid hI
      clear hI
      refine wp_region_invC (by kernel_rfl) (by kernel_rfl) I ?_ ?_ ?_
      · exact (HI.out _ _ _).2 ⟨_, _, _, _, _, _, _, _, _, rfl, St2.start _ _ _ _ _ _ _ _ (Below.refl _ _) (fun w1 w2 h hb => h.trans (hb.mono h.size))⟩
      · intro i oo dn ac wc ho hd hdep hcl hIn
        obtain ⟨s24, s25, s26, s27, s28, s29, s30, s31, s32, rfl, hT⟩ := (HI.out _ _ _).1 hIn
        clear hIn
        rcases i with _ | _ | _ | _ | _ | _ | _ | _ | _ | i
        · obtain rfl := Option.some.inj ho
          have HT := Lib.hid hT
          clear hT hdep hcl
          refine .inl ?_
          unfold Oper.wp
          go_simp
          exact (HI.out _ _ _).2 ⟨_, _, _, _, _, _, _, _, _, rfl, (HT.out).put 0 0 (.pointer (some ⟨p, 1, none⟩)) (by decide) rfl⟩
        · obtain rfl := Option.some.inj ho
          have hB : Below W1.heap.size W1 wc := by have := hT.st; split at this; exact this.1; split at this; exact this.1; exact this
          have HB9 := Lib.hid hB
          have HD := Lib.hid hd
          have HT := Lib.hid hT
          clear hT hdep hcl hB hd
          refine .inl ?_
          unfold Oper.wp
          go_simp
          (with_reducible refine (deeds_is wc).mono ?_); rintro e w9 ⟨r, rfl, hr, hm9, hb9⟩
          exact (HI.out _ _ _).2 ⟨_, _, _, _, _, _, _, _, _, rfl, HT.out.fstV HD.out (by decide) (fun e he => by cases he) rfl ⟨HB9.out.trans (hb9.mono HB9.out.size), r, rfl, hm9⟩⟩
        · obtain rfl := Option.some.inj ho
          have HT := Lib.hid hT
          clear hT hdep hcl
          refine .inl ?_
          unfold Oper.wp
          go_simp
          exact (HI.out _ _ _).2 ⟨_, _, _, _, _, _, _, _, _, rfl, (HT.out).put 2 1 (.pointer (some ⟨p, 0, none⟩)) (by decide) rfl⟩
        · obtain rfl := Option.some.inj ho
          have e2 := hT.vals _ (List.Mem.tail _ (List.Mem.head _)) (hdep ⟨2, .data⟩ (by simp) rfl)
          dsimp only at e2
          subst e2
          have hB : Below W1.heap.size W1 wc := by have := hT.st; split at this; exact this.1; split at this; exact this.1; exact this
          have l0 := (hB.cell (p := ⟨p, 0, none⟩) hpl).trans b0
          clear hB
          have HT := Lib.hid hT
          clear hT hdep hcl
          refine .inl ?_
          unfold Oper.wp
          go_simp
          exact (HI.out _ _ _).2 ⟨_, _, _, _, _, _, _, _, _, rfl, (HT.out).put 3 2 (.string xw) (by decide) rfl⟩
        · obtain rfl := Option.some.inj ho
          have e3 := hT.vals _ (List.Mem.tail _ (List.Mem.tail _ (List.Mem.head _))) (hdep ⟨3, .data⟩ (by simp) rfl)
          dsimp only at e3
          subst e3
          have hS : Below W1.heap.size W1 wc ∧ ∃ r, s25 = .map (some r) ∧ wc.heap[r]? = some (.map ES 5) := by have h9 := hT.st; rw [if_pos (hdep ⟨1, .data⟩ (by simp) rfl)] at h9; split at h9 <;> exact h9
          obtain ⟨hB, r, rfl, hr⟩ := hS
          have hlk := look_is xw r wc false hr
          rw [if_neg (by simp), HDV.out] at hlk
          clear hB hr
          have HT := Lib.hid hT
          clear hT hdep hcl
          refine .inl ?_
          unfold Oper.wp
          go_simp
          exact (HI.out _ _ _).2 ⟨_, _, _, _, _, _, _, _, _, rfl, (HT.out).put 4 3 (.agg #[.int .i64 (nm : Nat), dF (kd xw)]) (by decide) rfl⟩
        · obtain rfl := Option.some.inj ho
          have e4 := hT.vals _ (List.Mem.tail _ (List.Mem.tail _ (List.Mem.tail _ (List.Mem.head _)))) (hdep ⟨4, .data⟩ (by simp) rfl)
          dsimp only at e4
          subst e4
          have HT := Lib.hid hT
          clear hT hdep hcl
          refine .inl ?_
          unfold Oper.wp
          go_simp
          exact (HI.out _ _ _).2 ⟨_, _, _, _, _, _, _, _, _, rfl, (HT.out).put 5 4 (.int .i64 (nm : Nat)) (by decide) rfl⟩
        · obtain rfl := Option.some.inj ho
          have e0 := hT.vals _ (List.Mem.head _) (hdep ⟨0, .data⟩ (by simp) rfl)
          dsimp only at e0
          subst e0
          have e5 := hT.vals _ (List.Mem.tail _ (List.Mem.tail _ (List.Mem.tail _ (List.Mem.tail _ (List.Mem.head _))))) (hdep ⟨5, .data⟩ (by simp) rfl)
          dsimp only at e5
          subst e5
          have hsl := slice3 p nm hnm3 wc
          have HT := Lib.hid hT
          clear hT hdep hcl
          refine .inl ?_
          unfold Oper.wp
          go_simp
          exact (HI.out _ _ _).2 ⟨_, _, _, _, _, _, _, _, _, rfl, (HT.out).put 6 5 (.slice (some ⟨p, 1, none⟩) nm 3) (by decide) rfl⟩
        · obtain rfl := Option.some.inj ho
          have e6 := hT.vals _ (List.Mem.tail _ (List.Mem.tail _ (List.Mem.tail _ (List.Mem.tail _ (List.Mem.tail _ (List.Mem.head _)))))) (hdep ⟨6, .data⟩ (by simp) rfl)
          dsimp only at e6
          subst e6
          have HT := Lib.hid hT
          clear hT hdep hcl
          refine .inl ?_
          unfold Oper.wp
          go_simp
          exact (HI.out _ _ _).2 ⟨_, _, _, _, _, _, _, _, _, rfl, (HT.out).put 7 6 (.int .i64 (nm : Nat)) (by decide) rfl⟩
        · obtain rfl := Option.some.inj ho
          have HT := Lib.hid hT
          clear hT hdep hcl
          refine .inl ?_
          unfold Oper.wp
          go_simp
          exact (HI.out _ _ _).2 ⟨_, _, _, _, _, _, _, _, _, rfl, (HT.out).put 8 7 (.int .i64 0) (by decide) rfl⟩
        · cases ho
      · intro dn ac wc hd hIn
        obtain ⟨s24, s25, s26, s27, s28, s29, s30, s31, s32, rfl, hT⟩ := (HI.out _ _ _).1 hIn
        have hB : Below W1.heap.size W1 wc := by have := hT.st; split at this; exact this.1; split at this; exact this.1; exact this
        have e0 := hT.vals _ (List.Mem.head _) (hd 0 (by decide))
        dsimp only at e0
        subst e0
        have e2 := hT.vals _ (List.Mem.tail _ (List.Mem.head _)) (hd 2 (by decide))
        dsimp only at e2
        subst e2
        have e3 := hT.vals _ (List.Mem.tail _ (List.Mem.tail _ (List.Mem.head _))) (hd 3 (by decide))
        dsimp only at e3
        subst e3
        have e4 := hT.vals _ (List.Mem.tail _ (List.Mem.tail _ (List.Mem.tail _ (List.Mem.head _)))) (hd 4 (by decide))
        dsimp only at e4
        subst e4
        have e5 := hT.vals _ (List.Mem.tail _ (List.Mem.tail _ (List.Mem.tail _ (List.Mem.tail _ (List.Mem.head _))))) (hd 5 (by decide))
        dsimp only at e5
        subst e5
        have e6 := hT.vals _ (List.Mem.tail _ (List.Mem.tail _ (List.Mem.tail _ (List.Mem.tail _ (List.Mem.tail _ (List.Mem.head _)))))) (hd 6 (by decide))
        dsimp only at e6
        subst e6
        have e7 := hT.vals _ (List.Mem.tail _ (List.Mem.tail _ (List.Mem.tail _ (List.Mem.tail _ (List.Mem.tail _ (List.Mem.tail _ (List.Mem.head _))))))) (hd 7 (by decide))
        dsimp only at e7
        subst e7
        have e8 := hT.vals _ (List.Mem.tail _ (List.Mem.tail _ (List.Mem.tail _ (List.Mem.tail _ (List.Mem.tail _ (List.Mem.tail _ (List.Mem.tail _ (List.Mem.head _)))))))) (hd 8 (by decide))
        dsimp only at e8
        subst e8
        have HC := Lib.hid hB
        clear HI hIn hT hd hB
        have hbf := HBF1.out.below HC.out
        have hbx := (HC.out.block p hpl).trans HBX.out
        have hb1 : Below b wo wc := HBW1.out.trans (HC.out.mono (Nat.le_of_lt HBF1.out.lt))
        have HBF2 := Lib.hid hbf
        have HBX2 := Lib.hid hbx
        have HBW2 := Lib.hid hb1
        clear hbf hbx hb1 HC HBF1 HBX HBW1 b0
        go_wp2_with fail
        go_loopw [32] (fun j wq => ∃ jj : Nat, jj ≤ nm ∧ j = .int .i64 jj ∧ BF b (pre ++ xw.data.toList ++ numB ⟨xw, xa, xb, xc⟩ jj) wq ∧ wq.heap[p]? = some (.cells #[.string xw, .int .i64 xa, .int .i64 xb, .int .i64 xc] 50 (0, 0)) ∧ Below b wo wq) (fun j _ => nm - (intOf j).toNat)
        case atStart => exact ⟨0, Nat.zero_le _, rfl, by rw [show numB ⟨xw, xa, xb, xc⟩ 0 = [] from rfl, List.append_nil]; exact HBF2.out, HBX2.out, HBW2.out⟩
        case round =>
          obtain ⟨jj, hjj, rfl, hbf, hbx, hbw⟩ := hrel
          have HBF3 := Lib.hid hbf
          have HBX3 := Lib.hid hbx
          have HBW3 := Lib.hid hbw
          clear hbf hbx hbw HBF2 HBX2 HBW2
          have hxl : xw.data.toList.length = xw.size := by rw [Array.length_toList]; rfl
          by_cases hjl : jj < nm
          · have c9 := (acc_cell (x := ⟨xw, xa, xb, xc⟩) HBX3.out jj (by omega)).1
            have hn9 := HNB.out jj (by omega)
            have HN9 := Lib.hid (decI_len _ hn9.1 hn9.2)
            have HL9 := Lib.hid (HNL.out jj (by omega))
            have hplx : p < wr.heap.size := (Array.getElem?_eq_some_iff.1 HBX3.out).1
            obtain ⟨nn, hnn⟩ : ∃ nn, nn = at3 ⟨xw, xa, xb, xc⟩ jj := ⟨_, rfl⟩
            rw [← hnn] at c9 hn9 HN9
            have HNN := Lib.hid hnn
            clear hnn
            have hz9 : (str (decI nn)).size ≤ 17 := by rw [str_size]; exact HN9.out
            go_wp2_with first
              | (go_at_call 23; (with_reducible refine (dec_is nn _ (by omega) (by omega)).mono ?_); rintro e w4 ⟨rfl, hb4⟩; have HB4 := Lib.hid hb4; clear hb4)
              | (go_at_call 21; (with_reducible refine (wstr_is b _ _ _ (HBF3.out.below HB4.out) (by rw [sp_str_size]; simp only [List.length_append, hxl]; have := HPL.out; have := HL9.out; have := HN9.out; have := HKS.out; (try simp only at this); omega)).mono ?_); rintro e w5 ⟨rfl, hbf, hbw, hok⟩; have HBF5 := Lib.hid hbf; have HBW5 := Lib.hid hbw; have HOK5 := Lib.hid hok; clear hbf hbw hok)
            go_roundw
            case rel =>
              refine ⟨jj + 1, by omega, by go_num, ?_, ?_, ?_⟩
              · have h9 := HBF5.out
                rw [sp_str_data] at h9
                rw [numB_succ, ← HNN.out, ← List.append_assoc]
                exact h9
              · exact HOK5.out p _ ((HB4.out.block p hplx).trans HBX3.out) (fun e => HPB.out (by cases e; rfl)) (fun c fz e => by cases e)
              · exact (HBW3.out.trans (HB4.out.mono (Nat.le_of_lt HBF3.out.lt))).trans HBW5.out
            case measure => simp [intOf]; omega
          · have hje : jj = nm := by omega
            subst hje
            have HL9 := Lib.hid (HNL.out jj (by omega))
            go_wp2_with (go_at_call 24; (with_reducible refine (wbyte_is b _ _ HBF3.out (by simp only [List.length_append, hxl]; have := HPL.out; have := HL9.out; have := HKS.out; (try simp only at this); omega)).mono ?_); rintro e w5 ⟨rfl, hbf, hbw, hok⟩; have HBF5 := Lib.hid hbf; have HBW5 := Lib.hid hbw; clear hbf hbw hok)
            go_roundw
            case rel =>
              refine ⟨k + 1, by omega, by go_num, ?_, ?_⟩
              · have e1 : writeL (l.take (k + 1)) = pre ++ lineW ⟨xw, xa, xb, xc⟩ := by rw [List.take_add_one, HXK.out, HPRE.out]; simp [writeL]
                rw [e1, HLW.out, ← List.append_assoc, ← List.append_assoc]
                exact HBF5.out
              · exact (HW2.out.trans HBW3.out).trans HBW5.out
            case measure => simp [intOf]; omega
    · go_wp2_with (go_at_call 25; (with_reducible refine (wtext_is b _ _ HF.out).mono ?_); rintro e w2 ⟨rfl, hbw⟩; have HB2 := Lib.hid hbw; clear hbw)
      go_ret2
      have e1 : l.take k = l := List.take_of_length_le (by omega)
      have h2 := HW2.out.trans HB2.out
      rw [HBE.out] at h2
      exact ⟨by rw [e1]; rfl, HB1.out.trans (h2.mono HB1.out.size)⟩
end Go.Proofs.YthoemgiadadfcaaDoor
