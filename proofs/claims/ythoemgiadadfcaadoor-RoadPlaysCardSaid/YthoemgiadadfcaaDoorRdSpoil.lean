/- The deed that changes a packet's byte: its walk. -/
import Derived.Test.YthoemgiadadfcaaDoorRdTrim
import Derived.Test.YthoemgiadadfcaaDoorRowOf
import Derived.Lib.AtoiErrMem
set_option linter.unusedVariables false
set_option linter.unusedSimpArgs false
namespace Go.Proofs.YthoemgiadadfcaaDoor
open Go.RowKit Go.Sort Rd
namespace Rd
def spoilS (b : Nat) (c : Int) (s : ByteArray) : ByteArray := strOfNums ((ints s).set b (bits .xor .u8 ((ints s)[b]?.getD 0) (c % 256)))
def spoilF (b c : Int) (it : It) : It := if inn b it.1.size then (spoilS b.toNat c it.1, it.2) else it
end Rd
theorem Below.dN {B : Nat} {w W : World} (h : Below B w W) (n : Nat) : Below B w (W.drewN n) := h.trans ⟨rfl, rfl, rfl, Nat.le_refl _, fun _ _ => rfl⟩
set_option maxRecDepth 100000 in
set_option maxHeartbeats 3200000 in
theorem spoil_is (p : Nat) (v : Value) (xs : List It) (x : Ac) (w : World) (h : Lb w p v xs) (hn : xs.length ≤ 100000) (hsz : ∀ it ∈ xs, it.1.size ≤ 140737488355328) :
    Calls Tryd.prog 33 #[.pointer (some ⟨p, 0, none⟩), n3 x] w fun e w' => e = .returned (.tuple #[]) ∧ Dd w w' p v (updL x.a (spoilF x.b x.c) xs) := by
  obtain ⟨xw, xa, xb, xc⟩ := x
  obtain ⟨a, cap, hv⟩ := h.own.shape
  have hb1 : Below w.heap.size w (w.alloc (.cells #[.int .i64 xa, .int .i64 xb, .int .i64 xc] 27)) := (Below.refl _ _).alloc (Nat.le_refl _) _
  have hn1 : (w.alloc (.cells #[.int .i64 xa, .int .i64 xb, .int .i64 xc] 27)).heap[w.heap.size]? = some (.cells #[.int .i64 xa, .int .i64 xb, .int .i64 xc] 27 (0, 0)) := heap_alloc_new w _
  have l0 : (w.alloc (.cells #[.int .i64 xa, .int .i64 xb, .int .i64 xc] 27)).cell? ⟨w.heap.size, 0, none⟩ = some (.int .i64 xa) := cell_of_row _ _ 0 _ 27 (0, 0) hn1
  have l1 : (w.alloc (.cells #[.int .i64 xa, .int .i64 xb, .int .i64 xc] 27)).cell? ⟨w.heap.size, 1, none⟩ = some (.int .i64 xb) := cell_of_row _ _ 1 _ 27 (0, 0) hn1
  have l2 : (w.alloc (.cells #[.int .i64 xa, .int .i64 xb, .int .i64 xc] 27)).cell? ⟨w.heap.size, 2, none⟩ = some (.int .i64 xc) := cell_of_row _ _ 2 _ 27 (0, 0) hn1
  have l9 := (h.below hb1).cell
  rw [hv] at l9
  have hq := fun k => has_is p a xs.length cap xa ((w.alloc (.cells #[.int .i64 xa, .int .i64 xb, .int .i64 xc] 27)).drewN k) (by simpa using l9)
  have H := Lib.hid h
  have HB : Hid (∀ k, Below w.heap.size w ((w.alloc (.cells #[.int .i64 xa, .int .i64 xb, .int .i64 xc] 27)).drewN k)) := fun k => hb1.trans ⟨rfl, rfl, rfl, Nat.le_refl _, fun _ _ => rfl⟩
  show Calls Tryd.prog 33 #[.pointer (some ⟨p, 0, none⟩), .agg #[.int .i64 xa, .int .i64 xb, .int .i64 xc]] w _
  by_cases hi : inn xa xs.length
  · obtain ⟨i, rfl⟩ : ∃ i : Nat, xa = i := ⟨xa.toNat, by unfold inn at hi; omega⟩
    have hil : i < xs.length := by unfold inn at hi; omega
    obtain ⟨it, hit⟩ : ∃ it, xs[i]? = some it := ⟨xs[i], List.getElem?_eq_getElem hil⟩
    obtain ⟨g, cap', hv2, hcap⟩ := h.own.form (by omega)
    rw [hv] at hv2
    obtain ⟨rfl, rfl⟩ : a = some ⟨g, 0, none⟩ ∧ cap' = cap := by injection hv2 with e1 e2 e3; exact ⟨e1, e3.symm⟩
    subst hv
    have hL1 := h.below hb1
    have ls : (w.alloc (.cells #[.int .i64 (i : Nat), .int .i64 xb, .int .i64 xc] 27)).cell? ⟨g, i * 2, none⟩ = some (.string it.1) := hL1.own.cell lc_length i it hit 0 (.string it.1) rfl
    have hfr := hL1.own.free (i * 2)
    have hss := hsz it (List.mem_of_getElem? hit)
    have Hit := Lib.hid hit
    clear hL1 h hsz
    have HS : Hid (updL i (spoilF xb xc) xs = xs.set i (spoilF xb xc it)) := by show _ = _; unfold updL; rw [if_pos hi]; exact modify_set _ _ _ _ hit
    by_cases hj : inn xb it.1.size
    · rw [decide_eq_true (show 0 ≤ (i : Int) ∧ (i : Int) < (xs.length : Int) from hi)] at hq
      obtain ⟨j, rfl⟩ : ∃ j : Nat, xb = j := ⟨xb.toNat, by unfold inn at hj; omega⟩
      have hjl : j < it.1.size := by unfold inn at hj; omega
      have d1 : decide ((j : Int) < 0) = false := decide_eq_false (by omega)
      have d2 : decide (it.1.size ≤ j) = false := decide_eq_false (by omega)
      have HT : Hid (spoilF j xc it = (spoilS j xc it.1, it.2)) := by show _ = _; unfold spoilF; rw [if_pos hj]; rfl
      clear hj hi hit
      go_enter Tryd.func33, Tryd.ntmps33
      go_wp2_with fail
      go_quiet ((exact Calls.quiet_of_same (hq _)))
      go_wp2_with fail
      clear hq
      refine wp_region_quiet_tail 8 (by kernel_rfl) (by kernel_rfl) ?_
      simp only [List.take_succ_cons, List.take_zero, List.drop_succ_cons, List.drop_zero]
      repeat (go_big_quiet_step (fail))
      refine wpQuiet_nil ?_
      intro W8 hw
      obtain ⟨nq2, rfl⟩ := hw
      have kb : ∀ (W : World) (x : ByteArray), (convert 9 61 (.string x)).run Tryd.prog W = .ok (.slice (some ⟨W.heap.size, 0, none⟩) x.size (grownCap W x.size 0 5)) (Lib.bytesWorld W 5 x) :=
        fun W x => Lib.run_convert_string_bytes W 9 61 5 x Tryd.underlying9 Tryd.underlying61 Tryd.underlying5
      go_wp2_with fail
      obtain ⟨Wd, hWd⟩ : ∃ Wd, Wd = (w.alloc (.cells #[.int .i64 (i : Nat), .int .i64 (j : Nat), .int .i64 xc] 27)).drewN (nq + nq2) := ⟨_, rfl⟩
      have hbd := HB.out (nq + nq2)
      have hsd : Wd.heap.size = w.heap.size + 1 := by rw [hWd]; simp
      rw [← hWd] at hbd ⊢
      rw [← hsd]
      have HR := Lib.hid (row_bytesWorld Wd 5 it.1)
      have hbw := Lib.bytesWorld_below Wd 5 it.1
      have HB1 := Lib.hid (hbd.trans (hbw.mono hbd.size))
      have hc41 : (Lib.bytesWorld Wd 5 it.1).cell? ⟨Wd.heap.size, j, none⟩ = some (.int .u8 ((ints it.1).getD j 0)) := HR.out.at_ j (by rw [ints_length]; exact hjl)
      have hf41 : (Lib.bytesWorld Wd 5 it.1).frozen? ⟨Wd.heap.size, j, none⟩ = false := HR.out.free j (by rw [ints_length]; exact hjl)
      have hlt : w.heap.size < Wd.heap.size := by omega
      have hbq : Below (w.heap.size + 1) (w.alloc (.cells #[.int .i64 (i : Nat), .int .i64 (j : Nat), .int .i64 xc] 27)) Wd := by rw [hWd]; exact ⟨rfl, rfl, rfl, Nat.le_refl _, fun _ _ => rfl⟩
      have tr : ∀ b o, b < w.heap.size + 1 → (Lib.bytesWorld Wd 5 it.1).cell? ⟨b, o, none⟩ = (w.alloc (.cells #[.int .i64 (i : Nat), .int .i64 (j : Nat), .int .i64 xc] 27)).cell? ⟨b, o, none⟩ := fun b o h => (hbw.cell (p := ⟨b, o, none⟩) (by show b < _; omega)).trans (hbq.cell (p := ⟨b, o, none⟩) h)
      have trf : ∀ b o, b < w.heap.size + 1 → (Lib.bytesWorld Wd 5 it.1).frozen? ⟨b, o, none⟩ = (w.alloc (.cells #[.int .i64 (i : Nat), .int .i64 (j : Nat), .int .i64 xc] 27)).frozen? ⟨b, o, none⟩ := fun b o h => (hbw.frozen (p := ⟨b, o, none⟩) (by show b < _; omega)).trans (hbq.frozen (p := ⟨b, o, none⟩) h)
      have hpl := H.out.lt
      have hgl := H.out.own.lt g (by simp [foot_slice])
      have m0 := (tr _ 0 (Nat.lt_succ_self _)).trans l0
      have m1 := (tr _ 1 (Nat.lt_succ_self _)).trans l1
      have m2 := (tr _ 2 (Nat.lt_succ_self _)).trans l2
      have m9 := (tr _ 0 (by omega)).trans l9
      have ms := (tr _ _ (by omega)).trans ls
      have mfr := (trf _ _ (by omega)).trans hfr
      have hpg : Wd.heap.size ≠ p := by omega
      have hgg : Wd.heap.size ≠ g := by omega
      have hbb : Wd.heap.size ≠ w.heap.size := by omega
      have HSZ : Hid (Wd.heap.size < (Lib.bytesWorld Wd 5 it.1).heap.size) := by show _ < _; rw [Lib.bytesWorld_size]; omega
      have hnb2 : w.heap.size ≤ Wd.heap.size := by omega
      clear hWd hbd hsd hbw hlt hbq tr trf hpl hgl kb l0 l1 l2 l9 ls hfr hb1 hn1
      generalize Lib.bytesWorld Wd 5 it.1 = W1 at *
      generalize (grownCap Wd it.1.size 0 5) = gc at *
      generalize Wd.heap.size = nb2 at *
      refine wp_region_quiet_tail 10 (by kernel_rfl) (by kernel_rfl) ?_
      simp only [List.take_succ_cons, List.take_zero, List.drop_succ_cons, List.drop_zero]
      repeat (go_big_quiet_step (fail))
      refine wpQuiet_nil ?_
      intro W8 hw
      obtain ⟨nq2, rfl⟩ := hw
      go_wp2_with fail
      have hR2 : Row ((W1.drewN nq2).setCell ⟨nb2, j, none⟩ (.int .u8 (bits .xor .u8 ((ints it.1)[j]?.getD 0) (xc % 256)))) nb2 .u8 ((ints it.1).set j (bits .xor .u8 ((ints it.1)[j]?.getD 0) (xc % 256))) :=
        Row.set (Row.below HR.out (⟨rfl, rfl, rfl, Nat.le_refl _, fun _ _ => rfl⟩ : Below W1.heap.size W1 (W1.drewN nq2))) j _ (by rw [ints_length]; exact hjl)
      have hb2 : Below w.heap.size w ((W1.drewN nq2).setCell ⟨nb2, j, none⟩ (.int .u8 (bits .xor .u8 ((ints it.1)[j]?.getD 0) (xc % 256)))) :=
        (Below.dN HB1.out nq2).setCell (p := ⟨nb2, j, none⟩) hnb2 _
      obtain ⟨W2, hW2⟩ : ∃ W2, W2 = (W1.drewN nq2).setCell ⟨nb2, j, none⟩ (.int .u8 (bits .xor .u8 ((ints it.1)[j]?.getD 0) (xc % 256))) := ⟨_, rfl⟩
      have ot : ∀ b o, nb2 ≠ b → W2.cell? ⟨b, o, none⟩ = W1.cell? ⟨b, o, none⟩ := fun b o h => by rw [hW2]; exact World.cell?_of_block (a := ⟨b, o, none⟩) (Below.heap_setCell _ _ _ _ (fun e => h e.symm))
      have of : ∀ b o, nb2 ≠ b → W2.frozen? ⟨b, o, none⟩ = W1.frozen? ⟨b, o, none⟩ := fun b o h => by rw [hW2]; exact World.frozen?_of_block (a := ⟨b, o, none⟩) (Below.heap_setCell _ _ _ _ (fun e => h e.symm))
      have n0 := (ot _ 0 hbb).trans m0
      have n9 := (ot _ 0 hpg).trans m9
      have ns := (ot _ _ hgg).trans ms
      have nfr := (of _ _ hgg).trans mfr
      rw [← hW2] at hR2 hb2 ⊢
      have kc : ∀ n, (convert 61 9 (.slice (some ⟨nb2, 0, none⟩) it.1.size gc)).run Tryd.prog (W2.drewN n) = .ok (.string (spoilS j xc it.1)) (W2.drewN n) := fun n => by
        exact string_row (Row.below hR2 (⟨rfl, rfl, rfl, Nat.le_refl _, fun _ _ => rfl⟩ : Below W2.heap.size W2 (W2.drewN n))) (by rw [List.length_set, ints_length]) 61 5 9 Tryd.underlying61 Tryd.underlying5 Tryd.underlying9
      have HB2 := Lib.hid hb2
      generalize ((ints it.1)[j]?.getD 0) = zz at *
      clear hR2 hb2 hW2 ot of m0 m1 m2 m9 ms mfr hc41 hf41
      refine wp_region_quiet_tail 9 (by kernel_rfl) (by kernel_rfl) ?_
      simp only [List.take_succ_cons, List.take_zero, List.drop_succ_cons, List.drop_zero]
      repeat (go_big_quiet_step (fail))
      refine wpQuiet_nil ?_
      intro W8 hw
      obtain ⟨nq3, rfl⟩ := hw
      go_wp2_with fail
      go_end0
      exact ⟨rfl, by rw [HS.out, HT.out]; exact Dd.upd H.out rfl (Below.dN HB2.out nq3) i it Hit.out _⟩
    · have HT : Hid (spoilF xb xc it = it) := by show _ = _; unfold spoilF; rw [if_neg hj]
      have HX : Hid (xs.set i it = xs) := by
        show _ = _
        obtain ⟨hlt, rfl⟩ := List.getElem?_eq_some_iff.1 hit
        exact List.set_getElem_self hlt
      rw [decide_eq_true (show 0 ≤ (i : Int) ∧ (i : Int) < (xs.length : Int) from hi)] at hq
      by_cases h0 : 0 ≤ xb
      · obtain ⟨j, rfl⟩ : ∃ j : Nat, xb = j := ⟨xb.toNat, by omega⟩
        have hjl : ¬ j < it.1.size := fun h => hj (by unfold inn; omega)
        have d1 : decide ((j : Int) < 0) = false := decide_eq_false (by omega)
        have hd : decide (it.1.size ≤ j) = true := decide_eq_true (by omega)
        clear hj hi hit
        go_enter Tryd.func33, Tryd.ntmps33
        go_wp2_with fail
        go_quiet ((exact Calls.quiet_of_same (hq _)))
        go_wp2_with fail
        exact bodyPost_ret (results_none rfl _ _ _) rfl ⟨rfl, by rw [HS.out, HT.out, HX.out]; exact Dd.same H.out (HB.out _)⟩
      · have hd : decide (xb < 0) = true := decide_eq_true (by omega)
        clear hj hi hit
        go_enter Tryd.func33, Tryd.ntmps33
        go_wp2_with fail
        go_quiet ((exact Calls.quiet_of_same (hq _)))
        go_wp2_with fail
        exact bodyPost_ret (results_none rfl _ _ _) rfl ⟨rfl, by rw [HS.out, HT.out, HX.out]; exact Dd.same H.out (HB.out _)⟩
  · rw [decide_eq_false (show ¬ (0 ≤ xa ∧ xa < (xs.length : Int)) from hi)] at hq
    have HS : Hid (updL xa (spoilF xb xc) xs = xs) := by show _ = _; unfold updL; rw [if_neg hi]
    clear h l9
    go_enter Tryd.func33, Tryd.ntmps33
    go_wp2_with fail
    go_quiet ((exact Calls.quiet_of_same (hq _)))
    go_wp2_with fail
    exact bodyPost_ret (results_none rfl _ _ _) rfl ⟨rfl, by rw [HS.out]; exact Dd.same H.out (HB.out _)⟩
end Go.Proofs.YthoemgiadadfcaaDoor
