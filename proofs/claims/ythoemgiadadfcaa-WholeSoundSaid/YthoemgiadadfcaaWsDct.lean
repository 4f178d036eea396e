/- The wheel's points turned: the walks. -/
import Derived.Test.YthoemgiadadfcaaWsTurnIs
import Derived.Test.YthoemgiadadfcaaSt2
set_option linter.unusedVariables false
set_option linter.unusedSimpArgs false
namespace Go.Proofs.Ythoemgiadadfcaa
open Go.RowKit Go.Sort Ws
theorem flip_bits : ∀ k : Nat, k < 16 → bits BinOp.or IntKind.i64 (bits BinOp.or IntKind.i64 (bits BinOp.or IntKind.i64 (bits BinOp.and IntKind.i64 ((k : Int) / 8) 1) (bits BinOp.and IntKind.i64 ((k : Int) / 2) 2)) (bits BinOp.and IntKind.i64 ((k : Int) * 2) 4)) (bits BinOp.and IntKind.i64 ((k : Int) * 8) 8) = (flip k : Nat) := by decide +kernel
theorem flip_is (k : Nat) (hk : k < 16) (w : World) : Calls Try.prog 33 #[.int .i64 k] w fun e w' => e = .returned (.int .i64 (flip k : Nat)) ∧ w' = w := by
  have h := Lib.hid (flip_bits k hk)
  go_enter Try.func33, Try.ntmps33
  go_wp2
  go_ret
  exact ⟨by rw [← h.out]; rfl, rfl⟩
theorem edge_is (n : Nat) (hn : n < 16) (w : World) : Calls Try.prog 30 #[.int .i64 n] w fun e w' => e = .returned (.int .i64 (edge n)) ∧ w' = w := by
  go_enter Try.func30, Try.ntmps30
  go_wp2
  go_ret
  exact ⟨rfl, rfl⟩
set_option maxRecDepth 100000 in
set_option maxHeartbeats 3200000 in
theorem wturn_is (i : Nat) (hi : i < 16) (k : Int) (b : Nat) (f : F) (w : World) (h : Blk w b 60 32 f) :
    Calls Try.prog 29 #[.pointer (some ⟨b, 0, none⟩), .int .i64 i, .int .i64 k] w fun e w' => e = .returned (.tuple #[]) ∧ Wk w b 60 32 (turnAt i k f) w' := by
  have hS0 : Hid (Wk w b 60 32 f w) := ⟨h, Keep.refl _ _⟩
  have hbd : Hid (i * 2 < 32 ∧ i * 2 + 1 < 32) := by show _ ∧ _; omega
  have e0 : 2 * i = i * 2 := by omega
  have hiI : (i : Int) < 16 := by omega
  have hq := fun w => turn_is (f (i * 2)) (f (i * 2 + 1)) k w
  unfold turnAt po
  rw [e0]
  obtain ⟨x, hx⟩ : ∃ x, f (i * 2) = x := ⟨_, rfl⟩
  obtain ⟨y, hy⟩ : ∃ y, f (i * 2 + 1) = y := ⟨_, rfl⟩
  rw [hx, hy] at hq
  rw [hx, hy]
  generalize (tn x y k).1 = X at *
  generalize (tn x y k).2 = Y at *
  have hq := Lib.hid hq
  have hx := Lib.hid hx
  have hy := Lib.hid hy
  clear h e0
  go_enter Try.func29, Try.ntmps29
  obtain ⟨I, hI⟩ : ∃ I : (Nat → Bool) → Act → World → Prop, ∀ dn ac wc, I dn ac wc ↔ ∃ s6 s7 s8 s9 s10 s11 s12 s13 s14 s15 s16 s17 s18 s19 s20 s21 s22 s23 s24 s25 s26 s27 s28 s29 s30 s31 s32, ac = ⟨#[.pointer (some ⟨b, 0, none⟩), .int .i64 (i : Nat), .int .i64 k, undef, undef, undef, s6, s7, s8, s9, s10, s11, s12, s13, s14, s15, s16, s17, s18, s19, s20, s21, s22, s23, s24, s25, s26, s27, s28, s29, s30, s31, s32], []⟩ ∧
    St2 wc dn [(0, .pointer (some ⟨b, 0, none⟩), s7), (1, .int .i64 (i : Nat), s8), (2, .pointer (some ⟨b, 0, none⟩), s9), (3, .int .i64 (i : Nat), s10), (4, .pointer (some ⟨b, 0, none⟩), s11), (5, .int .i64 (i : Nat), s12), (6, .pointer (some ⟨b, 0, none⟩), s13), (7, .pointer (some ⟨b, i * 2, none⟩), s14), (8, .pointer (some ⟨b, i * 2, none⟩), s15), (9, .int .i64 x, s16), (10, .pointer (some ⟨b, 0, none⟩), s17), (11, .int .i64 (i : Nat), s18), (12, .pointer (some ⟨b, 0, none⟩), s19), (13, .pointer (some ⟨b, i * 2, none⟩), s20), (14, .pointer (some ⟨b, i * 2 + 1, none⟩), s21), (15, .int .i64 y, s22), (16, .int .i64 k, s23), (17, .tuple #[.int .i64 X, .int .i64 Y], s24), (18, .tuple #[.int .i64 X, .int .i64 Y], s6), (19, .int .i64 X, s25), (20, .int .i64 Y, s26), (21, .pointer (some ⟨b, 0, none⟩), s27), (22, .pointer (some ⟨b, i * 2, none⟩), s28), (23, .pointer (some ⟨b, i * 2, none⟩), s29), (25, .pointer (some ⟨b, 0, none⟩), s30), (26, .pointer (some ⟨b, i * 2, none⟩), s31), (27, .pointer (some ⟨b, i * 2 + 1, none⟩), s32)] (Wk w b 60 32 f) (Wk w b 60 32 fun m => if m = i * 2 then X else f m) (Wk w b 60 32 fun m => if m = i * 2 + 1 then Y else if m = i * 2 then X else f m) 24 28 [9, 15] := ⟨_, fun _ _ _ => Iff.rfl⟩
  have HI := Lib.hid hI
  clear hI
  refine wp_region_inv (by kernel_rfl) (by kernel_rfl) I ?_ ?_ ?_
  · exact (HI.out _ _ _).2 ⟨_, _, _, _, _, _, _, _, _, _, _, _, _, _, _, _, _, _, _, _, _, _, _, _, _, _, _, rfl, St2.start _ _ _ _ _ _ _ _ hS0.out (Wk.stays _ _ _ _ _)⟩
  · intro i o dn ac wc ho hd hdep hIn
    obtain ⟨s6, s7, s8, s9, s10, s11, s12, s13, s14, s15, s16, s17, s18, s19, s20, s21, s22, s23, s24, s25, s26, s27, s28, s29, s30, s31, s32, rfl, hT⟩ := (HI.out _ _ _).1 hIn
    clear hIn
    rcases i with _ | _ | _ | _ | _ | _ | _ | _ | _ | _ | _ | _ | _ | _ | _ | _ | _ | _ | _ | _ | _ | _ | _ | _ | _ | _ | _ | _ | _ | i
    · obtain rfl := Option.some.inj ho
      have HT := Lib.hid hT
      clear hT hdep
      refine .inl ?_
      unfold Oper.wp
      go_simp
      exact (HI.out _ _ _).2 ⟨_, _, _, _, _, _, _, _, _, _, _, _, _, _, _, _, _, _, _, _, _, _, _, _, _, _, _, rfl, (HT.out).put 0 0 (.pointer (some ⟨b, 0, none⟩)) (by decide) rfl⟩
    · obtain rfl := Option.some.inj ho
      have HT := Lib.hid hT
      clear hT hdep
      refine .inl ?_
      unfold Oper.wp
      go_simp
      exact (HI.out _ _ _).2 ⟨_, _, _, _, _, _, _, _, _, _, _, _, _, _, _, _, _, _, _, _, _, _, _, _, _, _, _, rfl, (HT.out).put 1 1 (.int .i64 (i : Nat)) (by decide) rfl⟩
    · obtain rfl := Option.some.inj ho
      have HT := Lib.hid hT
      clear hT hdep
      refine .inl ?_
      unfold Oper.wp
      go_simp
      exact (HI.out _ _ _).2 ⟨_, _, _, _, _, _, _, _, _, _, _, _, _, _, _, _, _, _, _, _, _, _, _, _, _, _, _, rfl, (HT.out).put 2 2 (.pointer (some ⟨b, 0, none⟩)) (by decide) rfl⟩
    · obtain rfl := Option.some.inj ho
      have HT := Lib.hid hT
      clear hT hdep
      refine .inl ?_
      unfold Oper.wp
      go_simp
      exact (HI.out _ _ _).2 ⟨_, _, _, _, _, _, _, _, _, _, _, _, _, _, _, _, _, _, _, _, _, _, _, _, _, _, _, rfl, (HT.out).put 3 3 (.int .i64 (i : Nat)) (by decide) rfl⟩
    · obtain rfl := Option.some.inj ho
      have HT := Lib.hid hT
      clear hT hdep
      refine .inl ?_
      unfold Oper.wp
      go_simp
      exact (HI.out _ _ _).2 ⟨_, _, _, _, _, _, _, _, _, _, _, _, _, _, _, _, _, _, _, _, _, _, _, _, _, _, _, rfl, (HT.out).put 4 4 (.pointer (some ⟨b, 0, none⟩)) (by decide) rfl⟩
    · obtain rfl := Option.some.inj ho
      have HT := Lib.hid hT
      clear hT hdep
      refine .inl ?_
      unfold Oper.wp
      go_simp
      exact (HI.out _ _ _).2 ⟨_, _, _, _, _, _, _, _, _, _, _, _, _, _, _, _, _, _, _, _, _, _, _, _, _, _, _, rfl, (HT.out).put 5 5 (.int .i64 (i : Nat)) (by decide) rfl⟩
    · obtain rfl := Option.some.inj ho
      have e4 := hT.vals _ (List.Mem.tail _ (List.Mem.tail _ (List.Mem.tail _ (List.Mem.tail _ (List.Mem.head _))))) (hdep ⟨4, .data⟩ (by simp) rfl)
      dsimp only at e4
      subst e4
      have HT := Lib.hid hT
      clear hT hdep
      refine .inl ?_
      unfold Oper.wp
      go_simp
      exact (HI.out _ _ _).2 ⟨_, _, _, _, _, _, _, _, _, _, _, _, _, _, _, _, _, _, _, _, _, _, _, _, _, _, _, rfl, (HT.out).put 6 6 (.pointer (some ⟨b, 0, none⟩)) (by decide) rfl⟩
    · obtain rfl := Option.some.inj ho
      have e6 := hT.vals _ (List.Mem.tail _ (List.Mem.tail _ (List.Mem.tail _ (List.Mem.tail _ (List.Mem.tail _ (List.Mem.tail _ (List.Mem.head _))))))) (hdep ⟨6, .data⟩ (by simp) rfl)
      dsimp only at e6
      subst e6
      have e5 := hT.vals _ (List.Mem.tail _ (List.Mem.tail _ (List.Mem.tail _ (List.Mem.tail _ (List.Mem.tail _ (List.Mem.head _)))))) (hdep ⟨5, .data⟩ (by simp) rfl)
      dsimp only at e5
      subst e5
      have HT := Lib.hid hT
      clear hT hdep
      refine .inl ?_
      unfold Oper.wp
      go_simp
      exact (HI.out _ _ _).2 ⟨_, _, _, _, _, _, _, _, _, _, _, _, _, _, _, _, _, _, _, _, _, _, _, _, _, _, _, rfl, (HT.out).put 7 7 (.pointer (some ⟨b, i * 2, none⟩)) (by decide) rfl⟩
    · obtain rfl := Option.some.inj ho
      have e7 := hT.vals _ (List.Mem.tail _ (List.Mem.tail _ (List.Mem.tail _ (List.Mem.tail _ (List.Mem.tail _ (List.Mem.tail _ (List.Mem.tail _ (List.Mem.head _)))))))) (hdep ⟨7, .data⟩ (by simp) rfl)
      dsimp only at e7
      subst e7
      have HT := Lib.hid hT
      clear hT hdep
      refine .inl ?_
      unfold Oper.wp
      go_simp
      exact (HI.out _ _ _).2 ⟨_, _, _, _, _, _, _, _, _, _, _, _, _, _, _, _, _, _, _, _, _, _, _, _, _, _, _, rfl, (HT.out).put 8 8 (.pointer (some ⟨b, i * 2, none⟩)) (by decide) rfl⟩
    · obtain rfl := Option.some.inj ho
      have e8 := hT.vals _ (List.Mem.tail _ (List.Mem.tail _ (List.Mem.tail _ (List.Mem.tail _ (List.Mem.tail _ (List.Mem.tail _ (List.Mem.tail _ (List.Mem.tail _ (List.Mem.head _))))))))) (hdep ⟨8, .data⟩ (by simp) rfl)
      dsimp only at e8
      subst e8
      have hS := hT.at0 9 hd (by decide)
      have l0 := hS.1.cell (i * 2) hbd.out.1
      rw [hx.out] at l0
      have HT := Lib.hid hT
      clear hT hdep hS
      refine .inl ?_
      unfold Oper.wp
      go_simp
      exact (HI.out _ _ _).2 ⟨_, _, _, _, _, _, _, _, _, _, _, _, _, _, _, _, _, _, _, _, _, _, _, _, _, _, _, rfl, (HT.out).put 9 9 (.int .i64 x) (by decide) rfl⟩
    · obtain rfl := Option.some.inj ho
      have HT := Lib.hid hT
      clear hT hdep
      refine .inl ?_
      unfold Oper.wp
      go_simp
      exact (HI.out _ _ _).2 ⟨_, _, _, _, _, _, _, _, _, _, _, _, _, _, _, _, _, _, _, _, _, _, _, _, _, _, _, rfl, (HT.out).put 10 10 (.pointer (some ⟨b, 0, none⟩)) (by decide) rfl⟩
    · obtain rfl := Option.some.inj ho
      have HT := Lib.hid hT
      clear hT hdep
      refine .inl ?_
      unfold Oper.wp
      go_simp
      exact (HI.out _ _ _).2 ⟨_, _, _, _, _, _, _, _, _, _, _, _, _, _, _, _, _, _, _, _, _, _, _, _, _, _, _, rfl, (HT.out).put 11 11 (.int .i64 (i : Nat)) (by decide) rfl⟩
    · obtain rfl := Option.some.inj ho
      have e10 := hT.vals _ (List.Mem.tail _ (List.Mem.tail _ (List.Mem.tail _ (List.Mem.tail _ (List.Mem.tail _ (List.Mem.tail _ (List.Mem.tail _ (List.Mem.tail _ (List.Mem.tail _ (List.Mem.tail _ (List.Mem.head _))))))))))) (hdep ⟨10, .data⟩ (by simp) rfl)
      dsimp only at e10
      subst e10
      have HT := Lib.hid hT
      clear hT hdep
      refine .inl ?_
      unfold Oper.wp
      go_simp
      exact (HI.out _ _ _).2 ⟨_, _, _, _, _, _, _, _, _, _, _, _, _, _, _, _, _, _, _, _, _, _, _, _, _, _, _, rfl, (HT.out).put 12 12 (.pointer (some ⟨b, 0, none⟩)) (by decide) rfl⟩
    · obtain rfl := Option.some.inj ho
      have e12 := hT.vals _ (List.Mem.tail _ (List.Mem.tail _ (List.Mem.tail _ (List.Mem.tail _ (List.Mem.tail _ (List.Mem.tail _ (List.Mem.tail _ (List.Mem.tail _ (List.Mem.tail _ (List.Mem.tail _ (List.Mem.tail _ (List.Mem.tail _ (List.Mem.head _))))))))))))) (hdep ⟨12, .data⟩ (by simp) rfl)
      dsimp only at e12
      subst e12
      have e11 := hT.vals _ (List.Mem.tail _ (List.Mem.tail _ (List.Mem.tail _ (List.Mem.tail _ (List.Mem.tail _ (List.Mem.tail _ (List.Mem.tail _ (List.Mem.tail _ (List.Mem.tail _ (List.Mem.tail _ (List.Mem.tail _ (List.Mem.head _)))))))))))) (hdep ⟨11, .data⟩ (by simp) rfl)
      dsimp only at e11
      subst e11
      have HT := Lib.hid hT
      clear hT hdep
      refine .inl ?_
      unfold Oper.wp
      go_simp
      exact (HI.out _ _ _).2 ⟨_, _, _, _, _, _, _, _, _, _, _, _, _, _, _, _, _, _, _, _, _, _, _, _, _, _, _, rfl, (HT.out).put 13 13 (.pointer (some ⟨b, i * 2, none⟩)) (by decide) rfl⟩
    · obtain rfl := Option.some.inj ho
      have e13 := hT.vals _ (List.Mem.tail _ (List.Mem.tail _ (List.Mem.tail _ (List.Mem.tail _ (List.Mem.tail _ (List.Mem.tail _ (List.Mem.tail _ (List.Mem.tail _ (List.Mem.tail _ (List.Mem.tail _ (List.Mem.tail _ (List.Mem.tail _ (List.Mem.tail _ (List.Mem.head _)))))))))))))) (hdep ⟨13, .data⟩ (by simp) rfl)
      dsimp only at e13
      subst e13
      have HT := Lib.hid hT
      clear hT hdep
      refine .inl ?_
      unfold Oper.wp
      go_simp
      exact (HI.out _ _ _).2 ⟨_, _, _, _, _, _, _, _, _, _, _, _, _, _, _, _, _, _, _, _, _, _, _, _, _, _, _, rfl, (HT.out).put 14 14 (.pointer (some ⟨b, i * 2 + 1, none⟩)) (by decide) rfl⟩
    · obtain rfl := Option.some.inj ho
      have e14 := hT.vals _ (List.Mem.tail _ (List.Mem.tail _ (List.Mem.tail _ (List.Mem.tail _ (List.Mem.tail _ (List.Mem.tail _ (List.Mem.tail _ (List.Mem.tail _ (List.Mem.tail _ (List.Mem.tail _ (List.Mem.tail _ (List.Mem.tail _ (List.Mem.tail _ (List.Mem.tail _ (List.Mem.head _))))))))))))))) (hdep ⟨14, .data⟩ (by simp) rfl)
      dsimp only at e14
      subst e14
      have hS := hT.at0 15 hd (by decide)
      have l0 := hS.1.cell (i * 2 + 1) hbd.out.2
      rw [hy.out] at l0
      have HT := Lib.hid hT
      clear hT hdep hS
      refine .inl ?_
      unfold Oper.wp
      go_simp
      exact (HI.out _ _ _).2 ⟨_, _, _, _, _, _, _, _, _, _, _, _, _, _, _, _, _, _, _, _, _, _, _, _, _, _, _, rfl, (HT.out).put 15 15 (.int .i64 y) (by decide) rfl⟩
    · obtain rfl := Option.some.inj ho
      have HT := Lib.hid hT
      clear hT hdep
      refine .inl ?_
      unfold Oper.wp
      go_simp
      exact (HI.out _ _ _).2 ⟨_, _, _, _, _, _, _, _, _, _, _, _, _, _, _, _, _, _, _, _, _, _, _, _, _, _, _, rfl, (HT.out).put 16 16 (.int .i64 k) (by decide) rfl⟩
    · obtain rfl := Option.some.inj ho
      have e9 := hT.vals _ (List.Mem.tail _ (List.Mem.tail _ (List.Mem.tail _ (List.Mem.tail _ (List.Mem.tail _ (List.Mem.tail _ (List.Mem.tail _ (List.Mem.tail _ (List.Mem.tail _ (List.Mem.head _)))))))))) (hdep ⟨9, .data⟩ (by simp) rfl)
      dsimp only at e9
      subst e9
      have e15 := hT.vals _ (List.Mem.tail _ (List.Mem.tail _ (List.Mem.tail _ (List.Mem.tail _ (List.Mem.tail _ (List.Mem.tail _ (List.Mem.tail _ (List.Mem.tail _ (List.Mem.tail _ (List.Mem.tail _ (List.Mem.tail _ (List.Mem.tail _ (List.Mem.tail _ (List.Mem.tail _ (List.Mem.tail _ (List.Mem.head _)))))))))))))))) (hdep ⟨15, .data⟩ (by simp) rfl)
      dsimp only at e15
      subst e15
      have e16 := hT.vals _ (List.Mem.tail _ (List.Mem.tail _ (List.Mem.tail _ (List.Mem.tail _ (List.Mem.tail _ (List.Mem.tail _ (List.Mem.tail _ (List.Mem.tail _ (List.Mem.tail _ (List.Mem.tail _ (List.Mem.tail _ (List.Mem.tail _ (List.Mem.tail _ (List.Mem.tail _ (List.Mem.tail _ (List.Mem.tail _ (List.Mem.head _))))))))))))))))) (hdep ⟨16, .data⟩ (by simp) rfl)
      dsimp only at e16
      subst e16
      have HT := Lib.hid hT
      clear hT hdep
      refine .inl ?_
      unfold Oper.wp
      go_simp
      (with_reducible refine (hq.out _).mono ?_); rintro e w1 ⟨rfl, hb1⟩
      exact (HI.out _ _ _).2 ⟨_, _, _, _, _, _, _, _, _, _, _, _, _, _, _, _, _, _, _, _, _, _, _, _, _, _, _, rfl, (HT.out.later (Wk.stays _ _ _ _ _) (Wk.stays _ _ _ _ _) (Wk.stays _ _ _ _ _) hb1).put 17 17 (.tuple #[.int .i64 X, .int .i64 Y]) (by decide) rfl⟩
    · obtain rfl := Option.some.inj ho
      have e17 := hT.vals _ (List.Mem.tail _ (List.Mem.tail _ (List.Mem.tail _ (List.Mem.tail _ (List.Mem.tail _ (List.Mem.tail _ (List.Mem.tail _ (List.Mem.tail _ (List.Mem.tail _ (List.Mem.tail _ (List.Mem.tail _ (List.Mem.tail _ (List.Mem.tail _ (List.Mem.tail _ (List.Mem.tail _ (List.Mem.tail _ (List.Mem.tail _ (List.Mem.head _)))))))))))))))))) (hdep ⟨17, .data⟩ (by simp) rfl)
      dsimp only at e17
      subst e17
      have HT := Lib.hid hT
      clear hT hdep
      refine .inl ?_
      unfold Oper.wp
      go_simp
      exact (HI.out _ _ _).2 ⟨_, _, _, _, _, _, _, _, _, _, _, _, _, _, _, _, _, _, _, _, _, _, _, _, _, _, _, rfl, (HT.out).put 18 18 (.tuple #[.int .i64 X, .int .i64 Y]) (by decide) rfl⟩
    · obtain rfl := Option.some.inj ho
      have e18 := hT.vals _ (List.Mem.tail _ (List.Mem.tail _ (List.Mem.tail _ (List.Mem.tail _ (List.Mem.tail _ (List.Mem.tail _ (List.Mem.tail _ (List.Mem.tail _ (List.Mem.tail _ (List.Mem.tail _ (List.Mem.tail _ (List.Mem.tail _ (List.Mem.tail _ (List.Mem.tail _ (List.Mem.tail _ (List.Mem.tail _ (List.Mem.tail _ (List.Mem.tail _ (List.Mem.head _))))))))))))))))))) (hdep ⟨18, .data⟩ (by simp) rfl)
      dsimp only at e18
      subst e18
      have HT := Lib.hid hT
      clear hT hdep
      refine .inl ?_
      unfold Oper.wp
      go_simp
      exact (HI.out _ _ _).2 ⟨_, _, _, _, _, _, _, _, _, _, _, _, _, _, _, _, _, _, _, _, _, _, _, _, _, _, _, rfl, (HT.out).put 19 19 (.int .i64 X) (by decide) rfl⟩
    · obtain rfl := Option.some.inj ho
      have e18 := hT.vals _ (List.Mem.tail _ (List.Mem.tail _ (List.Mem.tail _ (List.Mem.tail _ (List.Mem.tail _ (List.Mem.tail _ (List.Mem.tail _ (List.Mem.tail _ (List.Mem.tail _ (List.Mem.tail _ (List.Mem.tail _ (List.Mem.tail _ (List.Mem.tail _ (List.Mem.tail _ (List.Mem.tail _ (List.Mem.tail _ (List.Mem.tail _ (List.Mem.tail _ (List.Mem.head _))))))))))))))))))) (hdep ⟨18, .data⟩ (by simp) rfl)
      dsimp only at e18
      subst e18
      have HT := Lib.hid hT
      clear hT hdep
      refine .inl ?_
      unfold Oper.wp
      go_simp
      exact (HI.out _ _ _).2 ⟨_, _, _, _, _, _, _, _, _, _, _, _, _, _, _, _, _, _, _, _, _, _, _, _, _, _, _, rfl, (HT.out).put 20 20 (.int .i64 Y) (by decide) rfl⟩
    · obtain rfl := Option.some.inj ho
      have e0 := hT.vals _ (List.Mem.head _) (hdep ⟨0, .data⟩ (by simp) rfl)
      dsimp only at e0
      subst e0
      have HT := Lib.hid hT
      clear hT hdep
      refine .inl ?_
      unfold Oper.wp
      go_simp
      exact (HI.out _ _ _).2 ⟨_, _, _, _, _, _, _, _, _, _, _, _, _, _, _, _, _, _, _, _, _, _, _, _, _, _, _, rfl, (HT.out).put 21 21 (.pointer (some ⟨b, 0, none⟩)) (by decide) rfl⟩
    · obtain rfl := Option.some.inj ho
      have e21 := hT.vals _ (List.Mem.tail _ (List.Mem.tail _ (List.Mem.tail _ (List.Mem.tail _ (List.Mem.tail _ (List.Mem.tail _ (List.Mem.tail _ (List.Mem.tail _ (List.Mem.tail _ (List.Mem.tail _ (List.Mem.tail _ (List.Mem.tail _ (List.Mem.tail _ (List.Mem.tail _ (List.Mem.tail _ (List.Mem.tail _ (List.Mem.tail _ (List.Mem.tail _ (List.Mem.tail _ (List.Mem.tail _ (List.Mem.tail _ (List.Mem.head _)))))))))))))))))))))) (hdep ⟨21, .data⟩ (by simp) rfl)
      dsimp only at e21
      subst e21
      have e1 := hT.vals _ (List.Mem.tail _ (List.Mem.head _)) (hdep ⟨1, .data⟩ (by simp) rfl)
      dsimp only at e1
      subst e1
      have HT := Lib.hid hT
      clear hT hdep
      refine .inl ?_
      unfold Oper.wp
      go_simp
      exact (HI.out _ _ _).2 ⟨_, _, _, _, _, _, _, _, _, _, _, _, _, _, _, _, _, _, _, _, _, _, _, _, _, _, _, rfl, (HT.out).put 22 22 (.pointer (some ⟨b, i * 2, none⟩)) (by decide) rfl⟩
    · obtain rfl := Option.some.inj ho
      have e22 := hT.vals _ (List.Mem.tail _ (List.Mem.tail _ (List.Mem.tail _ (List.Mem.tail _ (List.Mem.tail _ (List.Mem.tail _ (List.Mem.tail _ (List.Mem.tail _ (List.Mem.tail _ (List.Mem.tail _ (List.Mem.tail _ (List.Mem.tail _ (List.Mem.tail _ (List.Mem.tail _ (List.Mem.tail _ (List.Mem.tail _ (List.Mem.tail _ (List.Mem.tail _ (List.Mem.tail _ (List.Mem.tail _ (List.Mem.tail _ (List.Mem.tail _ (List.Mem.head _))))))))))))))))))))))) (hdep ⟨22, .data⟩ (by simp) rfl)
      dsimp only at e22
      subst e22
      have HT := Lib.hid hT
      clear hT hdep
      refine .inl ?_
      unfold Oper.wp
      go_simp
      exact (HI.out _ _ _).2 ⟨_, _, _, _, _, _, _, _, _, _, _, _, _, _, _, _, _, _, _, _, _, _, _, _, _, _, _, rfl, (HT.out).put 23 23 (.pointer (some ⟨b, i * 2, none⟩)) (by decide) rfl⟩
    · obtain rfl := Option.some.inj ho
      have e23 := hT.vals _ (List.Mem.tail _ (List.Mem.tail _ (List.Mem.tail _ (List.Mem.tail _ (List.Mem.tail _ (List.Mem.tail _ (List.Mem.tail _ (List.Mem.tail _ (List.Mem.tail _ (List.Mem.tail _ (List.Mem.tail _ (List.Mem.tail _ (List.Mem.tail _ (List.Mem.tail _ (List.Mem.tail _ (List.Mem.tail _ (List.Mem.tail _ (List.Mem.tail _ (List.Mem.tail _ (List.Mem.tail _ (List.Mem.tail _ (List.Mem.tail _ (List.Mem.tail _ (List.Mem.head _)))))))))))))))))))))))) (hdep ⟨23, .data⟩ (by simp) rfl)
      dsimp only at e23
      subst e23
      have e19 := hT.vals _ (List.Mem.tail _ (List.Mem.tail _ (List.Mem.tail _ (List.Mem.tail _ (List.Mem.tail _ (List.Mem.tail _ (List.Mem.tail _ (List.Mem.tail _ (List.Mem.tail _ (List.Mem.tail _ (List.Mem.tail _ (List.Mem.tail _ (List.Mem.tail _ (List.Mem.tail _ (List.Mem.tail _ (List.Mem.tail _ (List.Mem.tail _ (List.Mem.tail _ (List.Mem.tail _ (List.Mem.head _)))))))))))))))))))) (hdep ⟨19, .data⟩ (by simp) rfl)
      dsimp only at e19
      subst e19
      have hpre : ∀ e ∈ [9, 15], dn e = true := by
        intro e he
        simp only [List.mem_cons, List.not_mem_nil, or_false] at he
        rcases he with rfl | rfl
        · exact hdep ⟨9, .phase⟩ (by simp) rfl
        · exact hdep ⟨15, .phase⟩ (by simp) rfl
      have hS := hT.at0 24 hd (by decide)
      have l0 := hS.1.cell (i * 2) hbd.out.1
      have f0 := hS.1.free (i * 2)
      have hnew := Lib.hid (hS.set (i * 2) X)
      have HT := Lib.hid hT
      clear hT hdep hS
      refine .inl ?_
      unfold Oper.wp
      go_simp
      exact (HI.out _ _ _).2 ⟨_, _, _, _, _, _, _, _, _, _, _, _, _, _, _, _, _, _, _, _, _, _, _, _, _, _, _, rfl, HT.out.fst hd (by decide) hpre rfl hnew.out⟩
    · obtain rfl := Option.some.inj ho
      have e2 := hT.vals _ (List.Mem.tail _ (List.Mem.tail _ (List.Mem.head _))) (hdep ⟨2, .data⟩ (by simp) rfl)
      dsimp only at e2
      subst e2
      have HT := Lib.hid hT
      clear hT hdep
      refine .inl ?_
      unfold Oper.wp
      go_simp
      exact (HI.out _ _ _).2 ⟨_, _, _, _, _, _, _, _, _, _, _, _, _, _, _, _, _, _, _, _, _, _, _, _, _, _, _, rfl, (HT.out).put 25 24 (.pointer (some ⟨b, 0, none⟩)) (by decide) rfl⟩
    · obtain rfl := Option.some.inj ho
      have e25 := hT.vals _ (List.Mem.tail _ (List.Mem.tail _ (List.Mem.tail _ (List.Mem.tail _ (List.Mem.tail _ (List.Mem.tail _ (List.Mem.tail _ (List.Mem.tail _ (List.Mem.tail _ (List.Mem.tail _ (List.Mem.tail _ (List.Mem.tail _ (List.Mem.tail _ (List.Mem.tail _ (List.Mem.tail _ (List.Mem.tail _ (List.Mem.tail _ (List.Mem.tail _ (List.Mem.tail _ (List.Mem.tail _ (List.Mem.tail _ (List.Mem.tail _ (List.Mem.tail _ (List.Mem.tail _ (List.Mem.head _))))))))))))))))))))))))) (hdep ⟨25, .data⟩ (by simp) rfl)
      dsimp only at e25
      subst e25
      have e3 := hT.vals _ (List.Mem.tail _ (List.Mem.tail _ (List.Mem.tail _ (List.Mem.head _)))) (hdep ⟨3, .data⟩ (by simp) rfl)
      dsimp only at e3
      subst e3
      have HT := Lib.hid hT
      clear hT hdep
      refine .inl ?_
      unfold Oper.wp
      go_simp
      exact (HI.out _ _ _).2 ⟨_, _, _, _, _, _, _, _, _, _, _, _, _, _, _, _, _, _, _, _, _, _, _, _, _, _, _, rfl, (HT.out).put 26 25 (.pointer (some ⟨b, i * 2, none⟩)) (by decide) rfl⟩
    · obtain rfl := Option.some.inj ho
      have e26 := hT.vals _ (List.Mem.tail _ (List.Mem.tail _ (List.Mem.tail _ (List.Mem.tail _ (List.Mem.tail _ (List.Mem.tail _ (List.Mem.tail _ (List.Mem.tail _ (List.Mem.tail _ (List.Mem.tail _ (List.Mem.tail _ (List.Mem.tail _ (List.Mem.tail _ (List.Mem.tail _ (List.Mem.tail _ (List.Mem.tail _ (List.Mem.tail _ (List.Mem.tail _ (List.Mem.tail _ (List.Mem.tail _ (List.Mem.tail _ (List.Mem.tail _ (List.Mem.tail _ (List.Mem.tail _ (List.Mem.tail _ (List.Mem.head _)))))))))))))))))))))))))) (hdep ⟨26, .data⟩ (by simp) rfl)
      dsimp only at e26
      subst e26
      have HT := Lib.hid hT
      clear hT hdep
      refine .inl ?_
      unfold Oper.wp
      go_simp
      exact (HI.out _ _ _).2 ⟨_, _, _, _, _, _, _, _, _, _, _, _, _, _, _, _, _, _, _, _, _, _, _, _, _, _, _, rfl, (HT.out).put 27 26 (.pointer (some ⟨b, i * 2 + 1, none⟩)) (by decide) rfl⟩
    · obtain rfl := Option.some.inj ho
      have e27 := hT.vals _ (List.Mem.tail _ (List.Mem.tail _ (List.Mem.tail _ (List.Mem.tail _ (List.Mem.tail _ (List.Mem.tail _ (List.Mem.tail _ (List.Mem.tail _ (List.Mem.tail _ (List.Mem.tail _ (List.Mem.tail _ (List.Mem.tail _ (List.Mem.tail _ (List.Mem.tail _ (List.Mem.tail _ (List.Mem.tail _ (List.Mem.tail _ (List.Mem.tail _ (List.Mem.tail _ (List.Mem.tail _ (List.Mem.tail _ (List.Mem.tail _ (List.Mem.tail _ (List.Mem.tail _ (List.Mem.tail _ (List.Mem.tail _ (List.Mem.head _))))))))))))))))))))))))))) (hdep ⟨27, .data⟩ (by simp) rfl)
      dsimp only at e27
      subst e27
      have e20 := hT.vals _ (List.Mem.tail _ (List.Mem.tail _ (List.Mem.tail _ (List.Mem.tail _ (List.Mem.tail _ (List.Mem.tail _ (List.Mem.tail _ (List.Mem.tail _ (List.Mem.tail _ (List.Mem.tail _ (List.Mem.tail _ (List.Mem.tail _ (List.Mem.tail _ (List.Mem.tail _ (List.Mem.tail _ (List.Mem.tail _ (List.Mem.tail _ (List.Mem.tail _ (List.Mem.tail _ (List.Mem.tail _ (List.Mem.head _))))))))))))))))))))) (hdep ⟨20, .data⟩ (by simp) rfl)
      dsimp only at e20
      subst e20
      have hi1 := hdep ⟨24, .chain⟩ (by simp) rfl
      have hS := hT.at1 hd hi1
      have l0 := hS.1.cell (i * 2 + 1) hbd.out.2
      have f0 := hS.1.free (i * 2 + 1)
      have hnew := Lib.hid (hS.set (i * 2 + 1) Y)
      have HT := Lib.hid hT
      clear hT hdep hS
      refine .inl ?_
      unfold Oper.wp
      go_simp
      exact (HI.out _ _ _).2 ⟨_, _, _, _, _, _, _, _, _, _, _, _, _, _, _, _, _, _, _, _, _, _, _, _, _, _, _, rfl, HT.out.snd (by decide) hi1 rfl hnew.out⟩
    · cases ho
  · intro dn ac wc hd hIn
    obtain ⟨s6, s7, s8, s9, s10, s11, s12, s13, s14, s15, s16, s17, s18, s19, s20, s21, s22, s23, s24, s25, s26, s27, s28, s29, s30, s31, s32, rfl, hT⟩ := (HI.out _ _ _).1 hIn
    have hF := Lib.hid (hT.done (hd 28 (by decide)))
    clear HI hIn hT hd
    go_wp2
    go_end0
    exact ⟨rfl, hF.out⟩
set_option maxRecDepth 100000 in
set_option maxHeartbeats 3200000 in
theorem wback_is (i : Nat) (hi : i < 16) (k : Int) (b : Nat) (f : F) (w : World) (h : Blk w b 60 32 f) :
    Calls Try.prog 34 #[.pointer (some ⟨b, 0, none⟩), .int .i64 i, .int .i64 k] w fun e w' => e = .returned (.tuple #[]) ∧ Wk w b 60 32 (backAt i k f) w' := by
  have hS0 : Hid (Wk w b 60 32 f w) := ⟨h, Keep.refl _ _⟩
  have hbd : Hid (i * 2 < 32 ∧ i * 2 + 1 < 32) := by show _ ∧ _; omega
  have e0 : 2 * i = i * 2 := by omega
  have hiI : (i : Int) < 16 := by omega
  have hq := fun w => back_is (f (i * 2)) (f (i * 2 + 1)) k w
  unfold backAt po
  rw [e0]
  obtain ⟨x, hx⟩ : ∃ x, f (i * 2) = x := ⟨_, rfl⟩
  obtain ⟨y, hy⟩ : ∃ y, f (i * 2 + 1) = y := ⟨_, rfl⟩
  rw [hx, hy] at hq
  rw [hx, hy]
  generalize (bk x y k).1 = X at *
  generalize (bk x y k).2 = Y at *
  have hq := Lib.hid hq
  have hx := Lib.hid hx
  have hy := Lib.hid hy
  clear h e0
  go_enter Try.func34, Try.ntmps34
  obtain ⟨I, hI⟩ : ∃ I : (Nat → Bool) → Act → World → Prop, ∀ dn ac wc, I dn ac wc ↔ ∃ s6 s7 s8 s9 s10 s11 s12 s13 s14 s15 s16 s17 s18 s19 s20 s21 s22 s23 s24 s25 s26 s27 s28 s29 s30 s31 s32, ac = ⟨#[.pointer (some ⟨b, 0, none⟩), .int .i64 (i : Nat), .int .i64 k, undef, undef, undef, s6, s7, s8, s9, s10, s11, s12, s13, s14, s15, s16, s17, s18, s19, s20, s21, s22, s23, s24, s25, s26, s27, s28, s29, s30, s31, s32], []⟩ ∧
    St2 wc dn [(0, .pointer (some ⟨b, 0, none⟩), s7), (1, .int .i64 (i : Nat), s8), (2, .pointer (some ⟨b, 0, none⟩), s9), (3, .int .i64 (i : Nat), s10), (4, .pointer (some ⟨b, 0, none⟩), s11), (5, .int .i64 (i : Nat), s12), (6, .pointer (some ⟨b, 0, none⟩), s13), (7, .pointer (some ⟨b, i * 2, none⟩), s14), (8, .pointer (some ⟨b, i * 2, none⟩), s15), (9, .int .i64 x, s16), (10, .pointer (some ⟨b, 0, none⟩), s17), (11, .int .i64 (i : Nat), s18), (12, .pointer (some ⟨b, 0, none⟩), s19), (13, .pointer (some ⟨b, i * 2, none⟩), s20), (14, .pointer (some ⟨b, i * 2 + 1, none⟩), s21), (15, .int .i64 y, s22), (16, .int .i64 k, s23), (17, .tuple #[.int .i64 X, .int .i64 Y], s24), (18, .tuple #[.int .i64 X, .int .i64 Y], s6), (19, .int .i64 X, s25), (20, .int .i64 Y, s26), (21, .pointer (some ⟨b, 0, none⟩), s27), (22, .pointer (some ⟨b, i * 2, none⟩), s28), (23, .pointer (some ⟨b, i * 2, none⟩), s29), (25, .pointer (some ⟨b, 0, none⟩), s30), (26, .pointer (some ⟨b, i * 2, none⟩), s31), (27, .pointer (some ⟨b, i * 2 + 1, none⟩), s32)] (Wk w b 60 32 f) (Wk w b 60 32 fun m => if m = i * 2 then X else f m) (Wk w b 60 32 fun m => if m = i * 2 + 1 then Y else if m = i * 2 then X else f m) 24 28 [9, 15] := ⟨_, fun _ _ _ => Iff.rfl⟩
  have HI := Lib.hid hI
  clear hI
  refine wp_region_inv (by kernel_rfl) (by kernel_rfl) I ?_ ?_ ?_
  · exact (HI.out _ _ _).2 ⟨_, _, _, _, _, _, _, _, _, _, _, _, _, _, _, _, _, _, _, _, _, _, _, _, _, _, _, rfl, St2.start _ _ _ _ _ _ _ _ hS0.out (Wk.stays _ _ _ _ _)⟩
  · intro i o dn ac wc ho hd hdep hIn
    obtain ⟨s6, s7, s8, s9, s10, s11, s12, s13, s14, s15, s16, s17, s18, s19, s20, s21, s22, s23, s24, s25, s26, s27, s28, s29, s30, s31, s32, rfl, hT⟩ := (HI.out _ _ _).1 hIn
    clear hIn
    rcases i with _ | _ | _ | _ | _ | _ | _ | _ | _ | _ | _ | _ | _ | _ | _ | _ | _ | _ | _ | _ | _ | _ | _ | _ | _ | _ | _ | _ | _ | i
    · obtain rfl := Option.some.inj ho
      have HT := Lib.hid hT
      clear hT hdep
      refine .inl ?_
      unfold Oper.wp
      go_simp
      exact (HI.out _ _ _).2 ⟨_, _, _, _, _, _, _, _, _, _, _, _, _, _, _, _, _, _, _, _, _, _, _, _, _, _, _, rfl, (HT.out).put 0 0 (.pointer (some ⟨b, 0, none⟩)) (by decide) rfl⟩
    · obtain rfl := Option.some.inj ho
      have HT := Lib.hid hT
      clear hT hdep
      refine .inl ?_
      unfold Oper.wp
      go_simp
      exact (HI.out _ _ _).2 ⟨_, _, _, _, _, _, _, _, _, _, _, _, _, _, _, _, _, _, _, _, _, _, _, _, _, _, _, rfl, (HT.out).put 1 1 (.int .i64 (i : Nat)) (by decide) rfl⟩
    · obtain rfl := Option.some.inj ho
      have HT := Lib.hid hT
      clear hT hdep
      refine .inl ?_
      unfold Oper.wp
      go_simp
      exact (HI.out _ _ _).2 ⟨_, _, _, _, _, _, _, _, _, _, _, _, _, _, _, _, _, _, _, _, _, _, _, _, _, _, _, rfl, (HT.out).put 2 2 (.pointer (some ⟨b, 0, none⟩)) (by decide) rfl⟩
    · obtain rfl := Option.some.inj ho
      have HT := Lib.hid hT
      clear hT hdep
      refine .inl ?_
      unfold Oper.wp
      go_simp
      exact (HI.out _ _ _).2 ⟨_, _, _, _, _, _, _, _, _, _, _, _, _, _, _, _, _, _, _, _, _, _, _, _, _, _, _, rfl, (HT.out).put 3 3 (.int .i64 (i : Nat)) (by decide) rfl⟩
    · obtain rfl := Option.some.inj ho
      have HT := Lib.hid hT
      clear hT hdep
      refine .inl ?_
      unfold Oper.wp
      go_simp
      exact (HI.out _ _ _).2 ⟨_, _, _, _, _, _, _, _, _, _, _, _, _, _, _, _, _, _, _, _, _, _, _, _, _, _, _, rfl, (HT.out).put 4 4 (.pointer (some ⟨b, 0, none⟩)) (by decide) rfl⟩
    · obtain rfl := Option.some.inj ho
      have HT := Lib.hid hT
      clear hT hdep
      refine .inl ?_
      unfold Oper.wp
      go_simp
      exact (HI.out _ _ _).2 ⟨_, _, _, _, _, _, _, _, _, _, _, _, _, _, _, _, _, _, _, _, _, _, _, _, _, _, _, rfl, (HT.out).put 5 5 (.int .i64 (i : Nat)) (by decide) rfl⟩
    · obtain rfl := Option.some.inj ho
      have e4 := hT.vals _ (List.Mem.tail _ (List.Mem.tail _ (List.Mem.tail _ (List.Mem.tail _ (List.Mem.head _))))) (hdep ⟨4, .data⟩ (by simp) rfl)
      dsimp only at e4
      subst e4
      have HT := Lib.hid hT
      clear hT hdep
      refine .inl ?_
      unfold Oper.wp
      go_simp
      exact (HI.out _ _ _).2 ⟨_, _, _, _, _, _, _, _, _, _, _, _, _, _, _, _, _, _, _, _, _, _, _, _, _, _, _, rfl, (HT.out).put 6 6 (.pointer (some ⟨b, 0, none⟩)) (by decide) rfl⟩
    · obtain rfl := Option.some.inj ho
      have e6 := hT.vals _ (List.Mem.tail _ (List.Mem.tail _ (List.Mem.tail _ (List.Mem.tail _ (List.Mem.tail _ (List.Mem.tail _ (List.Mem.head _))))))) (hdep ⟨6, .data⟩ (by simp) rfl)
      dsimp only at e6
      subst e6
      have e5 := hT.vals _ (List.Mem.tail _ (List.Mem.tail _ (List.Mem.tail _ (List.Mem.tail _ (List.Mem.tail _ (List.Mem.head _)))))) (hdep ⟨5, .data⟩ (by simp) rfl)
      dsimp only at e5
      subst e5
      have HT := Lib.hid hT
      clear hT hdep
      refine .inl ?_
      unfold Oper.wp
      go_simp
      exact (HI.out _ _ _).2 ⟨_, _, _, _, _, _, _, _, _, _, _, _, _, _, _, _, _, _, _, _, _, _, _, _, _, _, _, rfl, (HT.out).put 7 7 (.pointer (some ⟨b, i * 2, none⟩)) (by decide) rfl⟩
    · obtain rfl := Option.some.inj ho
      have e7 := hT.vals _ (List.Mem.tail _ (List.Mem.tail _ (List.Mem.tail _ (List.Mem.tail _ (List.Mem.tail _ (List.Mem.tail _ (List.Mem.tail _ (List.Mem.head _)))))))) (hdep ⟨7, .data⟩ (by simp) rfl)
      dsimp only at e7
      subst e7
      have HT := Lib.hid hT
      clear hT hdep
      refine .inl ?_
      unfold Oper.wp
      go_simp
      exact (HI.out _ _ _).2 ⟨_, _, _, _, _, _, _, _, _, _, _, _, _, _, _, _, _, _, _, _, _, _, _, _, _, _, _, rfl, (HT.out).put 8 8 (.pointer (some ⟨b, i * 2, none⟩)) (by decide) rfl⟩
    · obtain rfl := Option.some.inj ho
      have e8 := hT.vals _ (List.Mem.tail _ (List.Mem.tail _ (List.Mem.tail _ (List.Mem.tail _ (List.Mem.tail _ (List.Mem.tail _ (List.Mem.tail _ (List.Mem.tail _ (List.Mem.head _))))))))) (hdep ⟨8, .data⟩ (by simp) rfl)
      dsimp only at e8
      subst e8
      have hS := hT.at0 9 hd (by decide)
      have l0 := hS.1.cell (i * 2) hbd.out.1
      rw [hx.out] at l0
      have HT := Lib.hid hT
      clear hT hdep hS
      refine .inl ?_
      unfold Oper.wp
      go_simp
      exact (HI.out _ _ _).2 ⟨_, _, _, _, _, _, _, _, _, _, _, _, _, _, _, _, _, _, _, _, _, _, _, _, _, _, _, rfl, (HT.out).put 9 9 (.int .i64 x) (by decide) rfl⟩
    · obtain rfl := Option.some.inj ho
      have HT := Lib.hid hT
      clear hT hdep
      refine .inl ?_
      unfold Oper.wp
      go_simp
      exact (HI.out _ _ _).2 ⟨_, _, _, _, _, _, _, _, _, _, _, _, _, _, _, _, _, _, _, _, _, _, _, _, _, _, _, rfl, (HT.out).put 10 10 (.pointer (some ⟨b, 0, none⟩)) (by decide) rfl⟩
    · obtain rfl := Option.some.inj ho
      have HT := Lib.hid hT
      clear hT hdep
      refine .inl ?_
      unfold Oper.wp
      go_simp
      exact (HI.out _ _ _).2 ⟨_, _, _, _, _, _, _, _, _, _, _, _, _, _, _, _, _, _, _, _, _, _, _, _, _, _, _, rfl, (HT.out).put 11 11 (.int .i64 (i : Nat)) (by decide) rfl⟩
    · obtain rfl := Option.some.inj ho
      have e10 := hT.vals _ (List.Mem.tail _ (List.Mem.tail _ (List.Mem.tail _ (List.Mem.tail _ (List.Mem.tail _ (List.Mem.tail _ (List.Mem.tail _ (List.Mem.tail _ (List.Mem.tail _ (List.Mem.tail _ (List.Mem.head _))))))))))) (hdep ⟨10, .data⟩ (by simp) rfl)
      dsimp only at e10
      subst e10
      have HT := Lib.hid hT
      clear hT hdep
      refine .inl ?_
      unfold Oper.wp
      go_simp
      exact (HI.out _ _ _).2 ⟨_, _, _, _, _, _, _, _, _, _, _, _, _, _, _, _, _, _, _, _, _, _, _, _, _, _, _, rfl, (HT.out).put 12 12 (.pointer (some ⟨b, 0, none⟩)) (by decide) rfl⟩
    · obtain rfl := Option.some.inj ho
      have e12 := hT.vals _ (List.Mem.tail _ (List.Mem.tail _ (List.Mem.tail _ (List.Mem.tail _ (List.Mem.tail _ (List.Mem.tail _ (List.Mem.tail _ (List.Mem.tail _ (List.Mem.tail _ (List.Mem.tail _ (List.Mem.tail _ (List.Mem.tail _ (List.Mem.head _))))))))))))) (hdep ⟨12, .data⟩ (by simp) rfl)
      dsimp only at e12
      subst e12
      have e11 := hT.vals _ (List.Mem.tail _ (List.Mem.tail _ (List.Mem.tail _ (List.Mem.tail _ (List.Mem.tail _ (List.Mem.tail _ (List.Mem.tail _ (List.Mem.tail _ (List.Mem.tail _ (List.Mem.tail _ (List.Mem.tail _ (List.Mem.head _)))))))))))) (hdep ⟨11, .data⟩ (by simp) rfl)
      dsimp only at e11
      subst e11
      have HT := Lib.hid hT
      clear hT hdep
      refine .inl ?_
      unfold Oper.wp
      go_simp
      exact (HI.out _ _ _).2 ⟨_, _, _, _, _, _, _, _, _, _, _, _, _, _, _, _, _, _, _, _, _, _, _, _, _, _, _, rfl, (HT.out).put 13 13 (.pointer (some ⟨b, i * 2, none⟩)) (by decide) rfl⟩
    · obtain rfl := Option.some.inj ho
      have e13 := hT.vals _ (List.Mem.tail _ (List.Mem.tail _ (List.Mem.tail _ (List.Mem.tail _ (List.Mem.tail _ (List.Mem.tail _ (List.Mem.tail _ (List.Mem.tail _ (List.Mem.tail _ (List.Mem.tail _ (List.Mem.tail _ (List.Mem.tail _ (List.Mem.tail _ (List.Mem.head _)))))))))))))) (hdep ⟨13, .data⟩ (by simp) rfl)
      dsimp only at e13
      subst e13
      have HT := Lib.hid hT
      clear hT hdep
      refine .inl ?_
      unfold Oper.wp
      go_simp
      exact (HI.out _ _ _).2 ⟨_, _, _, _, _, _, _, _, _, _, _, _, _, _, _, _, _, _, _, _, _, _, _, _, _, _, _, rfl, (HT.out).put 14 14 (.pointer (some ⟨b, i * 2 + 1, none⟩)) (by decide) rfl⟩
    · obtain rfl := Option.some.inj ho
      have e14 := hT.vals _ (List.Mem.tail _ (List.Mem.tail _ (List.Mem.tail _ (List.Mem.tail _ (List.Mem.tail _ (List.Mem.tail _ (List.Mem.tail _ (List.Mem.tail _ (List.Mem.tail _ (List.Mem.tail _ (List.Mem.tail _ (List.Mem.tail _ (List.Mem.tail _ (List.Mem.tail _ (List.Mem.head _))))))))))))))) (hdep ⟨14, .data⟩ (by simp) rfl)
      dsimp only at e14
      subst e14
      have hS := hT.at0 15 hd (by decide)
      have l0 := hS.1.cell (i * 2 + 1) hbd.out.2
      rw [hy.out] at l0
      have HT := Lib.hid hT
      clear hT hdep hS
      refine .inl ?_
      unfold Oper.wp
      go_simp
      exact (HI.out _ _ _).2 ⟨_, _, _, _, _, _, _, _, _, _, _, _, _, _, _, _, _, _, _, _, _, _, _, _, _, _, _, rfl, (HT.out).put 15 15 (.int .i64 y) (by decide) rfl⟩
    · obtain rfl := Option.some.inj ho
      have HT := Lib.hid hT
      clear hT hdep
      refine .inl ?_
      unfold Oper.wp
      go_simp
      exact (HI.out _ _ _).2 ⟨_, _, _, _, _, _, _, _, _, _, _, _, _, _, _, _, _, _, _, _, _, _, _, _, _, _, _, rfl, (HT.out).put 16 16 (.int .i64 k) (by decide) rfl⟩
    · obtain rfl := Option.some.inj ho
      have e9 := hT.vals _ (List.Mem.tail _ (List.Mem.tail _ (List.Mem.tail _ (List.Mem.tail _ (List.Mem.tail _ (List.Mem.tail _ (List.Mem.tail _ (List.Mem.tail _ (List.Mem.tail _ (List.Mem.head _)))))))))) (hdep ⟨9, .data⟩ (by simp) rfl)
      dsimp only at e9
      subst e9
      have e15 := hT.vals _ (List.Mem.tail _ (List.Mem.tail _ (List.Mem.tail _ (List.Mem.tail _ (List.Mem.tail _ (List.Mem.tail _ (List.Mem.tail _ (List.Mem.tail _ (List.Mem.tail _ (List.Mem.tail _ (List.Mem.tail _ (List.Mem.tail _ (List.Mem.tail _ (List.Mem.tail _ (List.Mem.tail _ (List.Mem.head _)))))))))))))))) (hdep ⟨15, .data⟩ (by simp) rfl)
      dsimp only at e15
      subst e15
      have e16 := hT.vals _ (List.Mem.tail _ (List.Mem.tail _ (List.Mem.tail _ (List.Mem.tail _ (List.Mem.tail _ (List.Mem.tail _ (List.Mem.tail _ (List.Mem.tail _ (List.Mem.tail _ (List.Mem.tail _ (List.Mem.tail _ (List.Mem.tail _ (List.Mem.tail _ (List.Mem.tail _ (List.Mem.tail _ (List.Mem.tail _ (List.Mem.head _))))))))))))))))) (hdep ⟨16, .data⟩ (by simp) rfl)
      dsimp only at e16
      subst e16
      have HT := Lib.hid hT
      clear hT hdep
      refine .inl ?_
      unfold Oper.wp
      go_simp
      (with_reducible refine (hq.out _).mono ?_); rintro e w1 ⟨rfl, hb1⟩
      exact (HI.out _ _ _).2 ⟨_, _, _, _, _, _, _, _, _, _, _, _, _, _, _, _, _, _, _, _, _, _, _, _, _, _, _, rfl, (HT.out.later (Wk.stays _ _ _ _ _) (Wk.stays _ _ _ _ _) (Wk.stays _ _ _ _ _) hb1).put 17 17 (.tuple #[.int .i64 X, .int .i64 Y]) (by decide) rfl⟩
    · obtain rfl := Option.some.inj ho
      have e17 := hT.vals _ (List.Mem.tail _ (List.Mem.tail _ (List.Mem.tail _ (List.Mem.tail _ (List.Mem.tail _ (List.Mem.tail _ (List.Mem.tail _ (List.Mem.tail _ (List.Mem.tail _ (List.Mem.tail _ (List.Mem.tail _ (List.Mem.tail _ (List.Mem.tail _ (List.Mem.tail _ (List.Mem.tail _ (List.Mem.tail _ (List.Mem.tail _ (List.Mem.head _)))))))))))))))))) (hdep ⟨17, .data⟩ (by simp) rfl)
      dsimp only at e17
      subst e17
      have HT := Lib.hid hT
      clear hT hdep
      refine .inl ?_
      unfold Oper.wp
      go_simp
      exact (HI.out _ _ _).2 ⟨_, _, _, _, _, _, _, _, _, _, _, _, _, _, _, _, _, _, _, _, _, _, _, _, _, _, _, rfl, (HT.out).put 18 18 (.tuple #[.int .i64 X, .int .i64 Y]) (by decide) rfl⟩
    · obtain rfl := Option.some.inj ho
      have e18 := hT.vals _ (List.Mem.tail _ (List.Mem.tail _ (List.Mem.tail _ (List.Mem.tail _ (List.Mem.tail _ (List.Mem.tail _ (List.Mem.tail _ (List.Mem.tail _ (List.Mem.tail _ (List.Mem.tail _ (List.Mem.tail _ (List.Mem.tail _ (List.Mem.tail _ (List.Mem.tail _ (List.Mem.tail _ (List.Mem.tail _ (List.Mem.tail _ (List.Mem.tail _ (List.Mem.head _))))))))))))))))))) (hdep ⟨18, .data⟩ (by simp) rfl)
      dsimp only at e18
      subst e18
      have HT := Lib.hid hT
      clear hT hdep
      refine .inl ?_
      unfold Oper.wp
      go_simp
      exact (HI.out _ _ _).2 ⟨_, _, _, _, _, _, _, _, _, _, _, _, _, _, _, _, _, _, _, _, _, _, _, _, _, _, _, rfl, (HT.out).put 19 19 (.int .i64 X) (by decide) rfl⟩
    · obtain rfl := Option.some.inj ho
      have e18 := hT.vals _ (List.Mem.tail _ (List.Mem.tail _ (List.Mem.tail _ (List.Mem.tail _ (List.Mem.tail _ (List.Mem.tail _ (List.Mem.tail _ (List.Mem.tail _ (List.Mem.tail _ (List.Mem.tail _ (List.Mem.tail _ (List.Mem.tail _ (List.Mem.tail _ (List.Mem.tail _ (List.Mem.tail _ (List.Mem.tail _ (List.Mem.tail _ (List.Mem.tail _ (List.Mem.head _))))))))))))))))))) (hdep ⟨18, .data⟩ (by simp) rfl)
      dsimp only at e18
      subst e18
      have HT := Lib.hid hT
      clear hT hdep
      refine .inl ?_
      unfold Oper.wp
      go_simp
      exact (HI.out _ _ _).2 ⟨_, _, _, _, _, _, _, _, _, _, _, _, _, _, _, _, _, _, _, _, _, _, _, _, _, _, _, rfl, (HT.out).put 20 20 (.int .i64 Y) (by decide) rfl⟩
    · obtain rfl := Option.some.inj ho
      have e0 := hT.vals _ (List.Mem.head _) (hdep ⟨0, .data⟩ (by simp) rfl)
      dsimp only at e0
      subst e0
      have HT := Lib.hid hT
      clear hT hdep
      refine .inl ?_
      unfold Oper.wp
      go_simp
      exact (HI.out _ _ _).2 ⟨_, _, _, _, _, _, _, _, _, _, _, _, _, _, _, _, _, _, _, _, _, _, _, _, _, _, _, rfl, (HT.out).put 21 21 (.pointer (some ⟨b, 0, none⟩)) (by decide) rfl⟩
    · obtain rfl := Option.some.inj ho
      have e21 := hT.vals _ (List.Mem.tail _ (List.Mem.tail _ (List.Mem.tail _ (List.Mem.tail _ (List.Mem.tail _ (List.Mem.tail _ (List.Mem.tail _ (List.Mem.tail _ (List.Mem.tail _ (List.Mem.tail _ (List.Mem.tail _ (List.Mem.tail _ (List.Mem.tail _ (List.Mem.tail _ (List.Mem.tail _ (List.Mem.tail _ (List.Mem.tail _ (List.Mem.tail _ (List.Mem.tail _ (List.Mem.tail _ (List.Mem.tail _ (List.Mem.head _)))))))))))))))))))))) (hdep ⟨21, .data⟩ (by simp) rfl)
      dsimp only at e21
      subst e21
      have e1 := hT.vals _ (List.Mem.tail _ (List.Mem.head _)) (hdep ⟨1, .data⟩ (by simp) rfl)
      dsimp only at e1
      subst e1
      have HT := Lib.hid hT
      clear hT hdep
      refine .inl ?_
      unfold Oper.wp
      go_simp
      exact (HI.out _ _ _).2 ⟨_, _, _, _, _, _, _, _, _, _, _, _, _, _, _, _, _, _, _, _, _, _, _, _, _, _, _, rfl, (HT.out).put 22 22 (.pointer (some ⟨b, i * 2, none⟩)) (by decide) rfl⟩
    · obtain rfl := Option.some.inj ho
      have e22 := hT.vals _ (List.Mem.tail _ (List.Mem.tail _ (List.Mem.tail _ (List.Mem.tail _ (List.Mem.tail _ (List.Mem.tail _ (List.Mem.tail _ (List.Mem.tail _ (List.Mem.tail _ (List.Mem.tail _ (List.Mem.tail _ (List.Mem.tail _ (List.Mem.tail _ (List.Mem.tail _ (List.Mem.tail _ (List.Mem.tail _ (List.Mem.tail _ (List.Mem.tail _ (List.Mem.tail _ (List.Mem.tail _ (List.Mem.tail _ (List.Mem.tail _ (List.Mem.head _))))))))))))))))))))))) (hdep ⟨22, .data⟩ (by simp) rfl)
      dsimp only at e22
      subst e22
      have HT := Lib.hid hT
      clear hT hdep
      refine .inl ?_
      unfold Oper.wp
      go_simp
      exact (HI.out _ _ _).2 ⟨_, _, _, _, _, _, _, _, _, _, _, _, _, _, _, _, _, _, _, _, _, _, _, _, _, _, _, rfl, (HT.out).put 23 23 (.pointer (some ⟨b, i * 2, none⟩)) (by decide) rfl⟩
    · obtain rfl := Option.some.inj ho
      have e23 := hT.vals _ (List.Mem.tail _ (List.Mem.tail _ (List.Mem.tail _ (List.Mem.tail _ (List.Mem.tail _ (List.Mem.tail _ (List.Mem.tail _ (List.Mem.tail _ (List.Mem.tail _ (List.Mem.tail _ (List.Mem.tail _ (List.Mem.tail _ (List.Mem.tail _ (List.Mem.tail _ (List.Mem.tail _ (List.Mem.tail _ (List.Mem.tail _ (List.Mem.tail _ (List.Mem.tail _ (List.Mem.tail _ (List.Mem.tail _ (List.Mem.tail _ (List.Mem.tail _ (List.Mem.head _)))))))))))))))))))))))) (hdep ⟨23, .data⟩ (by simp) rfl)
      dsimp only at e23
      subst e23
      have e19 := hT.vals _ (List.Mem.tail _ (List.Mem.tail _ (List.Mem.tail _ (List.Mem.tail _ (List.Mem.tail _ (List.Mem.tail _ (List.Mem.tail _ (List.Mem.tail _ (List.Mem.tail _ (List.Mem.tail _ (List.Mem.tail _ (List.Mem.tail _ (List.Mem.tail _ (List.Mem.tail _ (List.Mem.tail _ (List.Mem.tail _ (List.Mem.tail _ (List.Mem.tail _ (List.Mem.tail _ (List.Mem.head _)))))))))))))))))))) (hdep ⟨19, .data⟩ (by simp) rfl)
      dsimp only at e19
      subst e19
      have hpre : ∀ e ∈ [9, 15], dn e = true := by
        intro e he
        simp only [List.mem_cons, List.not_mem_nil, or_false] at he
        rcases he with rfl | rfl
        · exact hdep ⟨9, .phase⟩ (by simp) rfl
        · exact hdep ⟨15, .phase⟩ (by simp) rfl
      have hS := hT.at0 24 hd (by decide)
      have l0 := hS.1.cell (i * 2) hbd.out.1
      have f0 := hS.1.free (i * 2)
      have hnew := Lib.hid (hS.set (i * 2) X)
      have HT := Lib.hid hT
      clear hT hdep hS
      refine .inl ?_
      unfold Oper.wp
      go_simp
      exact (HI.out _ _ _).2 ⟨_, _, _, _, _, _, _, _, _, _, _, _, _, _, _, _, _, _, _, _, _, _, _, _, _, _, _, rfl, HT.out.fst hd (by decide) hpre rfl hnew.out⟩
    · obtain rfl := Option.some.inj ho
      have e2 := hT.vals _ (List.Mem.tail _ (List.Mem.tail _ (List.Mem.head _))) (hdep ⟨2, .data⟩ (by simp) rfl)
      dsimp only at e2
      subst e2
      have HT := Lib.hid hT
      clear hT hdep
      refine .inl ?_
      unfold Oper.wp
      go_simp
      exact (HI.out _ _ _).2 ⟨_, _, _, _, _, _, _, _, _, _, _, _, _, _, _, _, _, _, _, _, _, _, _, _, _, _, _, rfl, (HT.out).put 25 24 (.pointer (some ⟨b, 0, none⟩)) (by decide) rfl⟩
    · obtain rfl := Option.some.inj ho
      have e25 := hT.vals _ (List.Mem.tail _ (List.Mem.tail _ (List.Mem.tail _ (List.Mem.tail _ (List.Mem.tail _ (List.Mem.tail _ (List.Mem.tail _ (List.Mem.tail _ (List.Mem.tail _ (List.Mem.tail _ (List.Mem.tail _ (List.Mem.tail _ (List.Mem.tail _ (List.Mem.tail _ (List.Mem.tail _ (List.Mem.tail _ (List.Mem.tail _ (List.Mem.tail _ (List.Mem.tail _ (List.Mem.tail _ (List.Mem.tail _ (List.Mem.tail _ (List.Mem.tail _ (List.Mem.tail _ (List.Mem.head _))))))))))))))))))))))))) (hdep ⟨25, .data⟩ (by simp) rfl)
      dsimp only at e25
      subst e25
      have e3 := hT.vals _ (List.Mem.tail _ (List.Mem.tail _ (List.Mem.tail _ (List.Mem.head _)))) (hdep ⟨3, .data⟩ (by simp) rfl)
      dsimp only at e3
      subst e3
      have HT := Lib.hid hT
      clear hT hdep
      refine .inl ?_
      unfold Oper.wp
      go_simp
      exact (HI.out _ _ _).2 ⟨_, _, _, _, _, _, _, _, _, _, _, _, _, _, _, _, _, _, _, _, _, _, _, _, _, _, _, rfl, (HT.out).put 26 25 (.pointer (some ⟨b, i * 2, none⟩)) (by decide) rfl⟩
    · obtain rfl := Option.some.inj ho
      have e26 := hT.vals _ (List.Mem.tail _ (List.Mem.tail _ (List.Mem.tail _ (List.Mem.tail _ (List.Mem.tail _ (List.Mem.tail _ (List.Mem.tail _ (List.Mem.tail _ (List.Mem.tail _ (List.Mem.tail _ (List.Mem.tail _ (List.Mem.tail _ (List.Mem.tail _ (List.Mem.tail _ (List.Mem.tail _ (List.Mem.tail _ (List.Mem.tail _ (List.Mem.tail _ (List.Mem.tail _ (List.Mem.tail _ (List.Mem.tail _ (List.Mem.tail _ (List.Mem.tail _ (List.Mem.tail _ (List.Mem.tail _ (List.Mem.head _)))))))))))))))))))))))))) (hdep ⟨26, .data⟩ (by simp) rfl)
      dsimp only at e26
      subst e26
      have HT := Lib.hid hT
      clear hT hdep
      refine .inl ?_
      unfold Oper.wp
      go_simp
      exact (HI.out _ _ _).2 ⟨_, _, _, _, _, _, _, _, _, _, _, _, _, _, _, _, _, _, _, _, _, _, _, _, _, _, _, rfl, (HT.out).put 27 26 (.pointer (some ⟨b, i * 2 + 1, none⟩)) (by decide) rfl⟩
    · obtain rfl := Option.some.inj ho
      have e27 := hT.vals _ (List.Mem.tail _ (List.Mem.tail _ (List.Mem.tail _ (List.Mem.tail _ (List.Mem.tail _ (List.Mem.tail _ (List.Mem.tail _ (List.Mem.tail _ (List.Mem.tail _ (List.Mem.tail _ (List.Mem.tail _ (List.Mem.tail _ (List.Mem.tail _ (List.Mem.tail _ (List.Mem.tail _ (List.Mem.tail _ (List.Mem.tail _ (List.Mem.tail _ (List.Mem.tail _ (List.Mem.tail _ (List.Mem.tail _ (List.Mem.tail _ (List.Mem.tail _ (List.Mem.tail _ (List.Mem.tail _ (List.Mem.tail _ (List.Mem.head _))))))))))))))))))))))))))) (hdep ⟨27, .data⟩ (by simp) rfl)
      dsimp only at e27
      subst e27
      have e20 := hT.vals _ (List.Mem.tail _ (List.Mem.tail _ (List.Mem.tail _ (List.Mem.tail _ (List.Mem.tail _ (List.Mem.tail _ (List.Mem.tail _ (List.Mem.tail _ (List.Mem.tail _ (List.Mem.tail _ (List.Mem.tail _ (List.Mem.tail _ (List.Mem.tail _ (List.Mem.tail _ (List.Mem.tail _ (List.Mem.tail _ (List.Mem.tail _ (List.Mem.tail _ (List.Mem.tail _ (List.Mem.tail _ (List.Mem.head _))))))))))))))))))))) (hdep ⟨20, .data⟩ (by simp) rfl)
      dsimp only at e20
      subst e20
      have hi1 := hdep ⟨24, .chain⟩ (by simp) rfl
      have hS := hT.at1 hd hi1
      have l0 := hS.1.cell (i * 2 + 1) hbd.out.2
      have f0 := hS.1.free (i * 2 + 1)
      have hnew := Lib.hid (hS.set (i * 2 + 1) Y)
      have HT := Lib.hid hT
      clear hT hdep hS
      refine .inl ?_
      unfold Oper.wp
      go_simp
      exact (HI.out _ _ _).2 ⟨_, _, _, _, _, _, _, _, _, _, _, _, _, _, _, _, _, _, _, _, _, _, _, _, _, _, _, rfl, HT.out.snd (by decide) hi1 rfl hnew.out⟩
    · cases ho
  · intro dn ac wc hd hIn
    obtain ⟨s6, s7, s8, s9, s10, s11, s12, s13, s14, s15, s16, s17, s18, s19, s20, s21, s22, s23, s24, s25, s26, s27, s28, s29, s30, s31, s32, rfl, hT⟩ := (HI.out _ _ _).1 hIn
    have hF := Lib.hid (hT.done (hd 28 (by decide)))
    clear HI hIn hT hd
    go_wp2
    go_end0
    exact ⟨rfl, hF.out⟩
end Go.Proofs.Ythoemgiadadfcaa
