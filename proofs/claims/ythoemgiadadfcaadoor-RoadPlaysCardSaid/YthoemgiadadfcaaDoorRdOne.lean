/- What is wrong with an act: its walk. -/
import Derived.Test.YthoemgiadadfcaaDoorRdDk
import Derived.Test.YthoemgiadadfcaaDoorRdTwice
set_option linter.unusedVariables false
set_option linter.unusedSimpArgs false
namespace Go.Proofs.YthoemgiadadfcaaDoor
open Go.RowKit Go.Sort Rd
namespace Rd
/-- A number that an act has not, or that is too great. -/
def badN (m i : Nat) (n : Int) : Prop := n < -9007199254740992 ∨ 9007199254740992 < n ∨ (m ≤ i ∧ n ≠ 0)
instance (m i : Nat) (n : Int) : Decidable (badN m i n) := by unfold badN; infer_instance
def at3 (x : Ac) : Nat → Int
  | 0 => x.a
  | 1 => x.b
  | _ => x.c
def wrg (x : Ac) : Int := if 5 ≤ kd x.w then 10 else if badN (nums (kd x.w)) 0 x.a ∨ badN (nums (kd x.w)) 1 x.b ∨ badN (nums (kd x.w)) 2 x.c then 7 else 0
end Rd
theorem arr_index (a b c : Int) (j : Nat) (hj : j < 3) (v : Int) (hv : v = at3 ⟨ByteArray.empty, a, b, c⟩ j) (w : World) : (Instr.index 27 (.agg #[.int .i64 a, .int .i64 b, .int .i64 c]) (.int .i64 (j : Nat))).run Tryd.prog w = .ok (.int .i64 v) w := by
  subst hv
  have i0 : (Instr.index 27 (.agg #[.int .i64 a, .int .i64 b, .int .i64 c]) (.int .i64 0)).run Tryd.prog w = .ok (.int .i64 a) w := by kernel_rfl
  have i1 : (Instr.index 27 (.agg #[.int .i64 a, .int .i64 b, .int .i64 c]) (.int .i64 1)).run Tryd.prog w = .ok (.int .i64 b) w := by kernel_rfl
  have i2 : (Instr.index 27 (.agg #[.int .i64 a, .int .i64 b, .int .i64 c]) (.int .i64 2)).run Tryd.prog w = .ok (.int .i64 c) w := by kernel_rfl
  match j, hj with
  | 0, _ => exact i0
  | 1, _ => exact i1
  | 2, _ => exact i2
theorem wr_ok (x : Ac) (hk : ¬ 5 ≤ kd x.w) (h : ∀ j, j < 3 → ¬ badN (nums (kd x.w)) j (at3 x j)) : wrg x = 0 := by
  unfold wrg
  rw [if_neg hk, if_neg]
  rintro (h1 | h1 | h1)
  · exact h 0 (by omega) h1
  · exact h 1 (by omega) h1
  · exact h 2 (by omega) h1
theorem wr_bad (x : Ac) (hk : ¬ 5 ≤ kd x.w) (j : Nat) (hj : j < 3) (h : badN (nums (kd x.w)) j (at3 x j)) : wrg x = 7 := by
  unfold wrg
  rw [if_neg hk, if_pos]
  match j, hj with
  | 0, _ => exact .inl h
  | 1, _ => exact .inr (.inl h)
  | 2, _ => exact .inr (.inr h)
set_option maxRecDepth 100000 in
set_option maxHeartbeats 3200000 in
theorem one_is (x : Ac) (w : World) : Calls Tryd.prog 20 #[.agg #[.string x.w, .int .i64 x.a, .int .i64 x.b, .int .i64 x.c]] w fun e w' => e = .returned (.int .i64 (wrg x)) ∧ Below w.heap.size w w' := by
  obtain ⟨xw, xa, xb, xc⟩ := x
  have hb1 : Below w.heap.size w (w.alloc (.cells #[.string xw, .int .i64 xa, .int .i64 xb, .int .i64 xc] 50)) := (Below.refl _ _).alloc (Nat.le_refl _) _
  have hn1 : (w.alloc (.cells #[.string xw, .int .i64 xa, .int .i64 xb, .int .i64 xc] 50)).heap[w.heap.size]? = some (.cells #[.string xw, .int .i64 xa, .int .i64 xb, .int .i64 xc] 50 (0, 0)) := heap_alloc_new w _
  have hm : nums (kd xw) ≤ 3 := by
    match kd xw with
    | 0 | 1 | 2 | 3 | 4 => decide
    | n + 5 => exact Nat.zero_le _
  go_enter Tryd.func20, Tryd.ntmps20
  go_upto_region 1 with (fail)
  obtain ⟨W1, hW1⟩ : ∃ W1, W1 = w.alloc (.cells #[.string xw, .int .i64 xa, .int .i64 xb, .int .i64 xc] 50) := ⟨_, rfl⟩
  rw [← hW1] at hb1 hn1 ⊢
  have hnl : w.heap.size < W1.heap.size := (Array.getElem?_eq_some_iff.1 hn1).1
  have c0 : W1.cell? ⟨w.heap.size, 0, none⟩ = some (.string xw) := cell_of_row _ _ 0 _ 50 (0, 0) hn1
  have c1 : W1.cell? ⟨w.heap.size, 1, none⟩ = some (.int .i64 xa) := cell_of_row _ _ 1 _ 50 (0, 0) hn1
  have c2 : W1.cell? ⟨w.heap.size, 1 + 1, none⟩ = some (.int .i64 xb) := cell_of_row _ _ 2 _ 50 (0, 0) hn1
  have c3 : W1.cell? ⟨w.heap.size, 1 + 2, none⟩ = some (.int .i64 xc) := cell_of_row _ _ 3 _ 50 (0, 0) hn1
  have HB := Lib.hid hb1
  clear hb1 hn1
  clear hW1
  generalize hnb : w.heap.size = nb at *
  have HNB := Lib.hid hnb
  clear hnb
  obtain ⟨I, hI⟩ : ∃ I : (Nat → Bool) → Act → World → Prop, ∀ dn ac wc, I dn ac wc ↔ ∃ s3 s4 s7 s8 s9 s10 s11 s12 s13, ac = ⟨#[.agg #[.string xw, .int .i64 xa, .int .i64 xb, .int .i64 xc], .pointer (some ⟨nb, 0, none⟩), .int .i64 0, s3, s4, undef, undef, s7, s8, s9, s10, s11, s12, s13, undef, undef, undef, undef, undef, undef, undef, undef, undef, undef, undef, undef, undef, undef, undef, undef, undef, undef, undef, undef, undef, undef, undef, undef, undef], []⟩ ∧
    Dk W1 wc dn [(1, .pointer (some ⟨nb, 0, none⟩), s9), (2, .string xw, s10), (3, .tuple #[dv (kd xw), .bool (decide (kd xw < 5))], s11), (4, .tuple #[dv (kd xw), .bool (decide (kd xw < 5))], s7), (5, dv (kd xw), s12), (6, .bool (decide (kd xw < 5)), s13), (9, .bool (decide (kd xw < 5)), s4)] (kd xw) 7 8 s8 s3 := ⟨_, fun _ _ _ => Iff.rfl⟩
  have HI := Lib.hid hI
  clear hI
  refine wp_region_inv (by kernel_rfl) (by kernel_rfl) I ?_ ?_ ?_
  · exact (HI.out _ _ _).2 ⟨_, _, _, _, _, _, _, _, _, rfl, Dk.start ..⟩
  · intro i o dn ac wc ho hd hdep hIn
    obtain ⟨s3, s4, s7, s8, s9, s10, s11, s12, s13, rfl, hT⟩ := (HI.out _ _ _).1 hIn
    clear hIn
    rcases i with _ | _ | _ | _ | _ | _ | _ | _ | _ | _ | i
    · obtain rfl := Option.some.inj ho
      have HT := Lib.hid hT
      clear hT hdep
      refine .inl ?_
      unfold Oper.wp
      go_simp
      (with_reducible refine (deeds_is wc).mono ?_); rintro e w1 ⟨r, rfl, hr, hm, hb⟩
      exact (HI.out _ _ _).2 ⟨_, _, _, _, _, _, _, _, _, rfl, HT.out.call (by decide) rfl hb hr hm⟩
    · obtain rfl := Option.some.inj ho
      have HT := Lib.hid hT
      clear hT hdep
      refine .inl ?_
      unfold Oper.wp
      go_simp
      exact (HI.out _ _ _).2 ⟨_, _, _, _, _, _, _, _, _, rfl, (HT.out).put 1 0 (.pointer (some ⟨nb, 0, none⟩)) (by decide) rfl⟩
    · obtain rfl := Option.some.inj ho
      have e1 := hT.vals _ (List.Mem.head _) (hdep ⟨1, .data⟩ (by simp) rfl)
      dsimp only at e1
      subst e1
      have hS := hT.below
      have l0 := (hS.cell (p := ⟨nb, 0, none⟩) hnl).trans c0
      clear hS
      have HT := Lib.hid hT
      clear hT hdep
      refine .inl ?_
      unfold Oper.wp
      go_simp
      exact (HI.out _ _ _).2 ⟨_, _, _, _, _, _, _, _, _, rfl, (HT.out).put 2 1 (.string xw) (by decide) rfl⟩
    · obtain rfl := Option.some.inj ho
      have e2 := hT.vals _ (List.Mem.tail _ (List.Mem.head _)) (hdep ⟨2, .data⟩ (by simp) rfl)
      dsimp only at e2
      subst e2
      obtain ⟨r, rfl, _, hr⟩ := hT.mp (hdep ⟨0, .data⟩ (by simp) rfl)
      have hlk := look_is xw r wc true hr
      rw [if_pos rfl] at hlk
      clear hr
      have HT := Lib.hid hT
      clear hT hdep
      refine .inl ?_
      unfold Oper.wp
      go_simp
      exact (HI.out _ _ _).2 ⟨_, _, _, _, _, _, _, _, _, rfl, (HT.out).put 3 2 (.tuple #[dv (kd xw), .bool (decide (kd xw < 5))]) (by decide) rfl⟩
    · obtain rfl := Option.some.inj ho
      have e3 := hT.vals _ (List.Mem.tail _ (List.Mem.tail _ (List.Mem.head _))) (hdep ⟨3, .data⟩ (by simp) rfl)
      dsimp only at e3
      subst e3
      have HT := Lib.hid hT
      clear hT hdep
      refine .inl ?_
      unfold Oper.wp
      go_simp
      exact (HI.out _ _ _).2 ⟨_, _, _, _, _, _, _, _, _, rfl, (HT.out).put 4 3 (.tuple #[dv (kd xw), .bool (decide (kd xw < 5))]) (by decide) rfl⟩
    · obtain rfl := Option.some.inj ho
      have e4 := hT.vals _ (List.Mem.tail _ (List.Mem.tail _ (List.Mem.tail _ (List.Mem.head _)))) (hdep ⟨4, .data⟩ (by simp) rfl)
      dsimp only at e4
      subst e4
      have HT := Lib.hid hT
      clear hT hdep
      refine .inl ?_
      unfold Oper.wp
      go_simp
      exact (HI.out _ _ _).2 ⟨_, _, _, _, _, _, _, _, _, rfl, (HT.out).put 5 4 (dv (kd xw)) (by decide) rfl⟩
    · obtain rfl := Option.some.inj ho
      have e4 := hT.vals _ (List.Mem.tail _ (List.Mem.tail _ (List.Mem.tail _ (List.Mem.head _)))) (hdep ⟨4, .data⟩ (by simp) rfl)
      dsimp only at e4
      subst e4
      have HT := Lib.hid hT
      clear hT hdep
      refine .inl ?_
      unfold Oper.wp
      go_simp
      exact (HI.out _ _ _).2 ⟨_, _, _, _, _, _, _, _, _, rfl, (HT.out).put 6 5 (.bool (decide (kd xw < 5))) (by decide) rfl⟩
    · obtain rfl := Option.some.inj ho
      have hT' := (HI.out _ _ _).2 ⟨_, _, _, _, _, _, _, _, _, rfl, hT.make hd (by decide) rfl⟩
      clear hT hdep
      refine .inl ?_
      unfold Oper.wp
      go_simp
      exact hT'
    · obtain rfl := Option.some.inj ho
      have e5 := hT.vals _ (List.Mem.tail _ (List.Mem.tail _ (List.Mem.tail _ (List.Mem.tail _ (List.Mem.head _))))) (hdep ⟨5, .data⟩ (by simp) rfl)
      dsimp only at e5
      subst e5
      obtain ⟨p, rfl, ho, hT'⟩ := hT.fill (hdep ⟨7, .data⟩ (by simp) rfl) hd (by decide) rfl
      refine .inl (wp_store_row 72 (.tmp 3) (.tmp 12) rfl p (dc (kd xw)) rfl (dv_eq _) 72 _ ho (by kernel_rfl) (by rfl) (dc_one _) ?_)
      exact (HI.out _ _ _).2 ⟨_, _, _, _, _, _, _, _, _, rfl, hT'⟩
    · obtain rfl := Option.some.inj ho
      have e6 := hT.vals _ (List.Mem.tail _ (List.Mem.tail _ (List.Mem.tail _ (List.Mem.tail _ (List.Mem.tail _ (List.Mem.head _)))))) (hdep ⟨6, .data⟩ (by simp) rfl)
      dsimp only at e6
      subst e6
      have HT := Lib.hid hT
      clear hT hdep
      refine .inl ?_
      unfold Oper.wp
      go_simp
      exact (HI.out _ _ _).2 ⟨_, _, _, _, _, _, _, _, _, rfl, (HT.out).put 9 6 (.bool (decide (kd xw < 5))) (by decide) rfl⟩
    · cases ho
  · intro dn ac wc hd hIn
    obtain ⟨s3, s4, s7, s8, s9, s10, s11, s12, s13, rfl, hT⟩ := (HI.out _ _ _).1 hIn
    have e4 := hT.vals _ (List.Mem.tail _ (List.Mem.tail _ (List.Mem.tail _ (List.Mem.tail _ (List.Mem.tail _ (List.Mem.tail _ (List.Mem.head _))))))) (hd 9 (by decide))
    dsimp only at e4
    subst e4
    obtain ⟨pd, rfl, hpd, hpr, hpb⟩ := hT.done (hd 7 (by decide)) (hd 8 (by decide))
    clear HI hIn hT hd
    have HB2 : Hid (Below w.heap.size w wc) := by have h9 := HB.out.trans (hpb.mono (Nat.le_of_lt hnl)); rw [← HNB.out] at h9; exact h9
    have m1 := (hpb.cell (p := ⟨nb, 1, none⟩) hnl).trans c1
    have m2 := (hpb.cell (p := ⟨nb, 1 + 1, none⟩) hnl).trans c2
    have m3 := (hpb.cell (p := ⟨nb, 1 + 2, none⟩) hnl).trans c3
    have mp : wc.cell? ⟨pd, 0, none⟩ = some (.int .i64 (nums (kd xw))) := cell_of_row _ _ 0 _ 72 (0, 0) hpr
    clear hpb hpr hpd c0 c1 c2 c3 hnl
    by_cases hk : kd xw < 5
    · have hkd : decide (kd xw < 5) = true := decide_eq_true hk
      go_wp2_with fail
      go_loop [18] (fun i => ∃ k : Nat, k ≤ 3 ∧ i = .int .i64 k ∧ ∀ j, j < k → ¬ badN (nums (kd xw)) j (at3 ⟨xw, xa, xb, xc⟩ j)) (fun i => 3 - (intOf i).toNat)
      case atStart => exact ⟨0, Nat.zero_le _, rfl, fun j hj => absurd hj (Nat.not_lt_zero _)⟩
      case round =>
        obtain ⟨k, hk3, rfl, hno⟩ := hrel
        have HNO := Lib.hid hno
        clear hno
        by_cases hlt : k < 3
        · obtain ⟨v, hv⟩ : ∃ v, v = at3 ⟨xw, xa, xb, xc⟩ k := ⟨_, rfl⟩
          have hix := arr_index xa xb xc k hlt v hv wc
          have HV := Lib.hid hv
          clear hv
          have hbadR : badN (nums (kd xw)) k v → wrg ⟨xw, xa, xb, xc⟩ = 7 := fun h => wr_bad _ (by show ¬ 5 ≤ kd xw; omega) k hlt (by rw [← HV.out]; exact h)
          have hgood : ¬ badN (nums (kd xw)) k v → ∀ j, j < k + 1 → ¬ badN (nums (kd xw)) j (at3 ⟨xw, xa, xb, xc⟩ j) := fun h j hj => by
            by_cases hjk : j = k
            · subst hjk; rw [← HV.out]; exact h
            · exact HNO.out j (by omega)
          by_cases hA : v < -9007199254740992
          · have HR := Lib.hid (hbadR (.inl hA))
            clear hbadR hgood
            go_wp2_with fail
            go_ret
            exact ⟨by rw [HR.out]; rfl, HB2.out⟩
          by_cases hB : 9007199254740992 < v
          · have HR := Lib.hid (hbadR (.inr (.inl hB)))
            clear hbadR hgood
            go_wp2_with fail
            go_ret
            exact ⟨by rw [HR.out]; rfl, HB2.out⟩
          by_cases hC : nums (kd xw) ≤ k
          · by_cases hD : v = 0
            · have HG := Lib.hid (hgood (by rintro (h | h | h); exact hA h; exact hB h; exact h.2 hD))
              have hD0 : (v != 0) = false := by simp [hD]
              clear hbadR hgood hD
              go_wp2_with fail
              go_round
              case rel => exact ⟨k + 1, by omega, by go_num, HG.out⟩
              case measure => simp [intOf]; omega
            · have HR := Lib.hid (hbadR (.inr (.inr ⟨hC, hD⟩)))
              have hD0 : (v != 0) = true := by simpa using hD
              clear hbadR hgood
              go_wp2_with fail
              go_ret
              exact ⟨by rw [HR.out]; rfl, HB2.out⟩
          · have HG := Lib.hid (hgood (by rintro (h | h | h); exact hA h; exact hB h; exact hC h.1))
            have hC0 : decide (nums (kd xw) ≤ k) = false := decide_eq_false hC
            clear hbadR hgood
            go_wp2_with fail
            go_round
            case rel => exact ⟨k + 1, by omega, by go_num, HG.out⟩
            case measure => simp [intOf]; omega
        · have HR : Hid (wrg ⟨xw, xa, xb, xc⟩ = 0) := wr_ok _ (by show ¬ 5 ≤ kd xw; omega) (fun j hj => HNO.out j (by omega))
          go_wp2_with fail
          go_ret
          exact ⟨by rw [HR.out]; rfl, HB2.out⟩
    · have hkd : decide (kd xw < 5) = false := decide_eq_false hk
      have HR : Hid (wrg ⟨xw, xa, xb, xc⟩ = 10) := by show _ = _; unfold wrg; rw [if_pos (show 5 ≤ kd xw by omega)]
      go_wp2_with fail
      go_ret
      exact ⟨by rw [HR.out]; rfl, HB2.out⟩
end Go.Proofs.YthoemgiadadfcaaDoor
