/- Two points crossed, and the crossing undone; a step of a stage: the walks. -/
import Derived.Test.YthoemgiadadfcaaWsDct
import Derived.Test.YthoemgiadadfcaaBelowTail
set_option linter.unusedVariables false
set_option linter.unusedSimpArgs false
namespace Go.Proofs.Ythoemgiadadfcaa
open Go.RowKit Go.Sort Ws
namespace Ws
def crossK (i j : Nat) : Nat → F → F
  | 0, f => f
  | n + 1, f => crossN i j n (crossK i j n f)
def uncrossK (i j : Nat) : Nat → F → F
  | 0, f => f
  | n + 1, f => uncrossN i j n (uncrossK i j n f)
end Ws
theorem wr_stays {w0 w w' : World} {b n : Nat} {t : TypeId} {f : Nat → Int} (h : Wk w0 b t n f w) (hb : Below w.heap.size w w') : Wk w0 b t n f w' := Wk.stays _ _ _ _ _ _ _ h hb
set_option maxRecDepth 100000 in
set_option maxHeartbeats 3200000 in
theorem cross_is (i j : Nat) (hi : i < 16) (hj : j < 16) (b : Nat) (f : F) (w : World) (h : Blk w b 60 32 f) :
    Calls Try.prog 42 #[.pointer (some ⟨b, 0, none⟩), .int .i64 i, .int .i64 j] w fun e w' => e = .returned (.tuple #[]) ∧ Wk w b 60 32 (cross i j f) w' := by
  have hS0 : Hid (Wk w b 60 32 (crossK i j 0 f) w) := ⟨h, Keep.refl _ _⟩
  have hiI : (i : Int) < 16 := by omega
  have hjI : (j : Int) < 16 := by omega
  have hij := Lib.hid (And.intro hi hj)
  have hE : Hid (crossK i j 2 f = cross i j f) := rfl
  clear h
  go_enter Try.func42, Try.ntmps42
  go_wp2
  go_loopw [9] (fun q wr => ∃ n : Nat, n ≤ 2 ∧ q = .int .i64 n ∧ Hid (Wk w b 60 32 (crossK i j n f) wr)) (fun q _ => 2 - (intOf q).toNat)
  case atStart => exact ⟨0, by omega, rfl, hS0⟩
  case round =>
    clear hS0
    obtain ⟨n, hn, rfl, hA⟩ := hrel
    obtain ⟨wo, rfl⟩ : ∃ wo : World, wo = wr := ⟨_, rfl⟩
    by_cases hlt : n < 2
    · have l0 := hA.out.1.cell (i * 2 + n) (by have := hij.out; omega)
      have l1 := hA.out.1.cell (j * 2 + n) (by have := hij.out; omega)
      have hst : crossK i j (n + 1) f = fun c => if c = j * 2 + n then (tn (crossK i j n f (i * 2 + n)) (crossK i j n f (j * 2 + n)) 64).1 else if c = i * 2 + n then (tn (crossK i j n f (i * 2 + n)) (crossK i j n f (j * 2 + n)) 64).2 else crossK i j n f c := by
        show crossN i j n (crossK i j n f) = _
        unfold crossN po
        rw [show 2 * i + n = i * 2 + n by omega, show 2 * j + n = j * 2 + n by omega]
      have hq := fun w => turn_is (crossK i j n f (i * 2 + n)) (crossK i j n f (j * 2 + n)) 64 w
      have hnI : (n : Int) < 2 := by omega
      obtain ⟨g, hg⟩ : ∃ g, crossK i j n f = g := ⟨_, rfl⟩
      rw [hg] at l0 l1 hst hq hA
      obtain ⟨x, hx⟩ : ∃ x, g (i * 2 + n) = x := ⟨_, rfl⟩
      obtain ⟨y, hy⟩ : ∃ y, g (j * 2 + n) = y := ⟨_, rfl⟩
      rw [hx, hy] at hst hq
      rw [hx] at l0
      rw [hy] at l1
      generalize (tn x y 64).1 = X at *
      generalize (tn x y 64).2 = Y at *
      have m0 : ∀ d os, (grow (redrawn wo d) os).cell? ⟨b, i * 2 + n, none⟩ = some (.int .i64 x) := fun d os => cell_regrown l0 d os
      have m1 : ∀ d os, (grow (redrawn wo d) os).cell? ⟨b, j * 2 + n, none⟩ = some (.int .i64 y) := fun d os => cell_regrown l1 d os
      have c1 := Lib.hid fun d os => (hq (grow (redrawn wo d) os)).regrown_of
      have hst := Lib.hid hst
      have hbd : Hid (i * 2 + n < 32 ∧ j * 2 + n < 32) := by show _ ∧ _; have := hij.out; omega
      clear hg hx hy hq l0 l1
      go_upto_region 3 with (fail)
      refine wp_region_below_tail 19 (by kernel_rfl) (by kernel_rfl) ?_
      simp only [List.take_succ_cons, List.take_zero, List.drop_succ_cons, List.drop_zero]
      repeat (first | go_big_quiet_skip | go_big_quiet_step (with_reducible exact c1.out _ _))
      refine wpQuiet_nil ?_
      intro _ hw'
      obtain ⟨⟨dq, osq⟩, hw''⟩ := hw'
      subst hw''
      have hS1 : Hid (Wk w b 60 32 g (grow (redrawn wo dq) osq)) := wr_stays hA.out (below_regrown wo dq osq)
      generalize grow (redrawn wo dq) osq = W5 at *
      clear m0 m1 c1 hA
      go_upto_region 4 with (fail)
      obtain ⟨I, hI⟩ : ∃ I : (Nat → Bool) → Act → World → Prop, ∀ dn ac wc, I dn ac wc ↔ ∃ s30 s31 s32 s33 s34 s35 s36 s37 s38 s39 s40 s41 s42 s43, ac = ⟨#[.pointer (some ⟨b, 0, none⟩), .int .i64 (i : Nat), .int .i64 (j : Nat), undef, undef, undef, .int .i64 (n : Nat), .int .i64 X, .int .i64 Y, .int .i64 (n : Nat), .bool true, .int .i64 (n : Nat), .tuple #[.int .i64 X, .int .i64 Y], .pointer (some ⟨b, 0, none⟩), .int .i64 (i : Nat), .int .i64 (n : Nat), .pointer (some ⟨b, 0, none⟩), .pointer (some ⟨b, i * 2, none⟩), .pointer (some ⟨b, i * 2 + n, none⟩), .int .i64 x, .pointer (some ⟨b, 0, none⟩), .int .i64 (j : Nat), .int .i64 (n : Nat), .pointer (some ⟨b, 0, none⟩), .pointer (some ⟨b, j * 2, none⟩), .pointer (some ⟨b, j * 2 + n, none⟩), .int .i64 y, .tuple #[.int .i64 X, .int .i64 Y], .int .i64 X, .int .i64 Y, s30, s31, s32, s33, s34, s35, s36, s37, s38, s39, s40, s41, s42, s43, u44], []⟩ ∧
        St2 wc dn [(0, .pointer (some ⟨b, 0, none⟩), s30), (1, .int .i64 (i : Nat), s31), (2, .int .i64 (n : Nat), s32), (3, .pointer (some ⟨b, 0, none⟩), s33), (4, .int .i64 (j : Nat), s34), (5, .int .i64 (n : Nat), s35), (6, .int .i64 Y, s36), (7, .int .i64 X, s37), (8, .pointer (some ⟨b, 0, none⟩), s38), (9, .pointer (some ⟨b, i * 2, none⟩), s39), (10, .pointer (some ⟨b, i * 2 + n, none⟩), s40), (12, .pointer (some ⟨b, 0, none⟩), s41), (13, .pointer (some ⟨b, j * 2, none⟩), s42), (14, .pointer (some ⟨b, j * 2 + n, none⟩), s43)] (Wk w b 60 32 g) (Wk w b 60 32 fun m => if m = i * 2 + n then Y else g m) (Wk w b 60 32 fun m => if m = j * 2 + n then X else if m = i * 2 + n then Y else g m) 11 15 [] := ⟨_, fun _ _ _ => Iff.rfl⟩
      have HI := Lib.hid hI
      clear hI
      refine wp_region_inv (by kernel_rfl) (by kernel_rfl) I ?_ ?_ ?_
      · exact (HI.out _ _ _).2 ⟨_, _, _, _, _, _, _, _, _, _, _, _, _, _, rfl, St2.start _ _ _ _ _ _ _ _ hS1.out (Wk.stays _ _ _ _ _)⟩
      · intro i o dn ac wc ho hd hdep hIn
        obtain ⟨s30, s31, s32, s33, s34, s35, s36, s37, s38, s39, s40, s41, s42, s43, rfl, hT⟩ := (HI.out _ _ _).1 hIn
        clear hIn
        rcases i with _ | _ | _ | _ | _ | _ | _ | _ | _ | _ | _ | _ | _ | _ | _ | _ | i
        · obtain rfl := Option.some.inj ho
          have HT := Lib.hid hT
          clear hT hdep
          refine .inl ?_
          unfold Oper.wp
          go_simp
          exact (HI.out _ _ _).2 ⟨_, _, _, _, _, _, _, _, _, _, _, _, _, _, rfl, (HT.out).put 0 0 (.pointer (some ⟨b, 0, none⟩)) (by decide) rfl⟩
        · obtain rfl := Option.some.inj ho
          have HT := Lib.hid hT
          clear hT hdep
          refine .inl ?_
          unfold Oper.wp
          go_simp
          exact (HI.out _ _ _).2 ⟨_, _, _, _, _, _, _, _, _, _, _, _, _, _, rfl, (HT.out).put 1 1 (.int .i64 (i : Nat)) (by decide) rfl⟩
        · obtain rfl := Option.some.inj ho
          have HT := Lib.hid hT
          clear hT hdep
          refine .inl ?_
          unfold Oper.wp
          go_simp
          exact (HI.out _ _ _).2 ⟨_, _, _, _, _, _, _, _, _, _, _, _, _, _, rfl, (HT.out).put 2 2 (.int .i64 (n : Nat)) (by decide) rfl⟩
        · obtain rfl := Option.some.inj ho
          have HT := Lib.hid hT
          clear hT hdep
          refine .inl ?_
          unfold Oper.wp
          go_simp
          exact (HI.out _ _ _).2 ⟨_, _, _, _, _, _, _, _, _, _, _, _, _, _, rfl, (HT.out).put 3 3 (.pointer (some ⟨b, 0, none⟩)) (by decide) rfl⟩
        · obtain rfl := Option.some.inj ho
          have HT := Lib.hid hT
          clear hT hdep
          refine .inl ?_
          unfold Oper.wp
          go_simp
          exact (HI.out _ _ _).2 ⟨_, _, _, _, _, _, _, _, _, _, _, _, _, _, rfl, (HT.out).put 4 4 (.int .i64 (j : Nat)) (by decide) rfl⟩
        · obtain rfl := Option.some.inj ho
          have HT := Lib.hid hT
          clear hT hdep
          refine .inl ?_
          unfold Oper.wp
          go_simp
          exact (HI.out _ _ _).2 ⟨_, _, _, _, _, _, _, _, _, _, _, _, _, _, rfl, (HT.out).put 5 5 (.int .i64 (n : Nat)) (by decide) rfl⟩
        · obtain rfl := Option.some.inj ho
          have HT := Lib.hid hT
          clear hT hdep
          refine .inl ?_
          unfold Oper.wp
          go_simp
          exact (HI.out _ _ _).2 ⟨_, _, _, _, _, _, _, _, _, _, _, _, _, _, rfl, (HT.out).put 6 6 (.int .i64 Y) (by decide) rfl⟩
        · obtain rfl := Option.some.inj ho
          have HT := Lib.hid hT
          clear hT hdep
          refine .inl ?_
          unfold Oper.wp
          go_simp
          exact (HI.out _ _ _).2 ⟨_, _, _, _, _, _, _, _, _, _, _, _, _, _, rfl, (HT.out).put 7 7 (.int .i64 X) (by decide) rfl⟩
        · obtain rfl := Option.some.inj ho
          have e0 := hT.vals _ (List.Mem.head _) (hdep ⟨0, .data⟩ (by simp) rfl)
          dsimp only at e0
          subst e0
          have HT := Lib.hid hT
          clear hT hdep
          refine .inl ?_
          unfold Oper.wp
          go_simp
          exact (HI.out _ _ _).2 ⟨_, _, _, _, _, _, _, _, _, _, _, _, _, _, rfl, (HT.out).put 8 8 (.pointer (some ⟨b, 0, none⟩)) (by decide) rfl⟩
        · obtain rfl := Option.some.inj ho
          have e8 := hT.vals _ (List.Mem.tail _ (List.Mem.tail _ (List.Mem.tail _ (List.Mem.tail _ (List.Mem.tail _ (List.Mem.tail _ (List.Mem.tail _ (List.Mem.tail _ (List.Mem.head _))))))))) (hdep ⟨8, .data⟩ (by simp) rfl)
          dsimp only at e8
          subst e8
          have e1 := hT.vals _ (List.Mem.tail _ (List.Mem.head _)) (hdep ⟨1, .data⟩ (by simp) rfl)
          dsimp only at e1
          subst e1
          have HT := Lib.hid hT
          clear hT hdep
          refine .inl ?_
          unfold Oper.wp
          go_simp
          exact (HI.out _ _ _).2 ⟨_, _, _, _, _, _, _, _, _, _, _, _, _, _, rfl, (HT.out).put 9 9 (.pointer (some ⟨b, i * 2, none⟩)) (by decide) rfl⟩
        · obtain rfl := Option.some.inj ho
          have e9 := hT.vals _ (List.Mem.tail _ (List.Mem.tail _ (List.Mem.tail _ (List.Mem.tail _ (List.Mem.tail _ (List.Mem.tail _ (List.Mem.tail _ (List.Mem.tail _ (List.Mem.tail _ (List.Mem.head _)))))))))) (hdep ⟨9, .data⟩ (by simp) rfl)
          dsimp only at e9
          subst e9
          have e2 := hT.vals _ (List.Mem.tail _ (List.Mem.tail _ (List.Mem.head _))) (hdep ⟨2, .data⟩ (by simp) rfl)
          dsimp only at e2
          subst e2
          have HT := Lib.hid hT
          clear hT hdep
          refine .inl ?_
          unfold Oper.wp
          go_simp
          exact (HI.out _ _ _).2 ⟨_, _, _, _, _, _, _, _, _, _, _, _, _, _, rfl, (HT.out).put 10 10 (.pointer (some ⟨b, i * 2 + n, none⟩)) (by decide) rfl⟩
        · obtain rfl := Option.some.inj ho
          have e10 := hT.vals _ (List.Mem.tail _ (List.Mem.tail _ (List.Mem.tail _ (List.Mem.tail _ (List.Mem.tail _ (List.Mem.tail _ (List.Mem.tail _ (List.Mem.tail _ (List.Mem.tail _ (List.Mem.tail _ (List.Mem.head _))))))))))) (hdep ⟨10, .data⟩ (by simp) rfl)
          dsimp only at e10
          subst e10
          have e6 := hT.vals _ (List.Mem.tail _ (List.Mem.tail _ (List.Mem.tail _ (List.Mem.tail _ (List.Mem.tail _ (List.Mem.tail _ (List.Mem.head _))))))) (hdep ⟨6, .data⟩ (by simp) rfl)
          dsimp only at e6
          subst e6
          have hpre : ∀ e ∈ [], dn e = true := by
            intro e he
            cases he
          have hS := hT.at0 11 hd (by decide)
          have l0 := hS.1.cell (i * 2 + n) hbd.out.1
          have f0 := hS.1.free (i * 2 + n)
          have hnew := Lib.hid (hS.set (i * 2 + n) Y)
          have HT := Lib.hid hT
          clear hT hdep hS
          refine .inl ?_
          unfold Oper.wp
          go_simp
          exact (HI.out _ _ _).2 ⟨_, _, _, _, _, _, _, _, _, _, _, _, _, _, rfl, HT.out.fst hd (by decide) hpre rfl hnew.out⟩
        · obtain rfl := Option.some.inj ho
          have e3 := hT.vals _ (List.Mem.tail _ (List.Mem.tail _ (List.Mem.tail _ (List.Mem.head _)))) (hdep ⟨3, .data⟩ (by simp) rfl)
          dsimp only at e3
          subst e3
          have HT := Lib.hid hT
          clear hT hdep
          refine .inl ?_
          unfold Oper.wp
          go_simp
          exact (HI.out _ _ _).2 ⟨_, _, _, _, _, _, _, _, _, _, _, _, _, _, rfl, (HT.out).put 12 11 (.pointer (some ⟨b, 0, none⟩)) (by decide) rfl⟩
        · obtain rfl := Option.some.inj ho
          have e12 := hT.vals _ (List.Mem.tail _ (List.Mem.tail _ (List.Mem.tail _ (List.Mem.tail _ (List.Mem.tail _ (List.Mem.tail _ (List.Mem.tail _ (List.Mem.tail _ (List.Mem.tail _ (List.Mem.tail _ (List.Mem.tail _ (List.Mem.head _)))))))))))) (hdep ⟨12, .data⟩ (by simp) rfl)
          dsimp only at e12
          subst e12
          have e4 := hT.vals _ (List.Mem.tail _ (List.Mem.tail _ (List.Mem.tail _ (List.Mem.tail _ (List.Mem.head _))))) (hdep ⟨4, .data⟩ (by simp) rfl)
          dsimp only at e4
          subst e4
          have HT := Lib.hid hT
          clear hT hdep
          refine .inl ?_
          unfold Oper.wp
          go_simp
          exact (HI.out _ _ _).2 ⟨_, _, _, _, _, _, _, _, _, _, _, _, _, _, rfl, (HT.out).put 13 12 (.pointer (some ⟨b, j * 2, none⟩)) (by decide) rfl⟩
        · obtain rfl := Option.some.inj ho
          have e13 := hT.vals _ (List.Mem.tail _ (List.Mem.tail _ (List.Mem.tail _ (List.Mem.tail _ (List.Mem.tail _ (List.Mem.tail _ (List.Mem.tail _ (List.Mem.tail _ (List.Mem.tail _ (List.Mem.tail _ (List.Mem.tail _ (List.Mem.tail _ (List.Mem.head _))))))))))))) (hdep ⟨13, .data⟩ (by simp) rfl)
          dsimp only at e13
          subst e13
          have e5 := hT.vals _ (List.Mem.tail _ (List.Mem.tail _ (List.Mem.tail _ (List.Mem.tail _ (List.Mem.tail _ (List.Mem.head _)))))) (hdep ⟨5, .data⟩ (by simp) rfl)
          dsimp only at e5
          subst e5
          have HT := Lib.hid hT
          clear hT hdep
          refine .inl ?_
          unfold Oper.wp
          go_simp
          exact (HI.out _ _ _).2 ⟨_, _, _, _, _, _, _, _, _, _, _, _, _, _, rfl, (HT.out).put 14 13 (.pointer (some ⟨b, j * 2 + n, none⟩)) (by decide) rfl⟩
        · obtain rfl := Option.some.inj ho
          have e14 := hT.vals _ (List.Mem.tail _ (List.Mem.tail _ (List.Mem.tail _ (List.Mem.tail _ (List.Mem.tail _ (List.Mem.tail _ (List.Mem.tail _ (List.Mem.tail _ (List.Mem.tail _ (List.Mem.tail _ (List.Mem.tail _ (List.Mem.tail _ (List.Mem.tail _ (List.Mem.head _)))))))))))))) (hdep ⟨14, .data⟩ (by simp) rfl)
          dsimp only at e14
          subst e14
          have e7 := hT.vals _ (List.Mem.tail _ (List.Mem.tail _ (List.Mem.tail _ (List.Mem.tail _ (List.Mem.tail _ (List.Mem.tail _ (List.Mem.tail _ (List.Mem.head _)))))))) (hdep ⟨7, .data⟩ (by simp) rfl)
          dsimp only at e7
          subst e7
          have hi1 := hdep ⟨11, .chain⟩ (by simp) rfl
          have hS := hT.at1 hd hi1
          have l0 := hS.1.cell (j * 2 + n) hbd.out.2
          have f0 := hS.1.free (j * 2 + n)
          have hnew := Lib.hid (hS.set (j * 2 + n) X)
          have HT := Lib.hid hT
          clear hT hdep hS
          refine .inl ?_
          unfold Oper.wp
          go_simp
          exact (HI.out _ _ _).2 ⟨_, _, _, _, _, _, _, _, _, _, _, _, _, _, rfl, HT.out.snd (by decide) hi1 rfl hnew.out⟩
        · cases ho
      · intro dn ac wc hd hIn
        obtain ⟨s30, s31, s32, s33, s34, s35, s36, s37, s38, s39, s40, s41, s42, s43, rfl, hT⟩ := (HI.out _ _ _).1 hIn
        have hF := Lib.hid (hT.done (hd 15 (by decide)))
        clear HI hIn hT hd
        have hN : Hid (Wk w b 60 32 (crossK i j (n + 1) f) wc) := by show Wk _ _ _ _ _ _; rw [hst.out]; exact hF.out
        clear hF hst
        go_wp2
        go_roundw
        case rel => exact ⟨n + 1, by omega, by go_num, hN⟩
        case measure => simp [intOf]; omega
    · obtain rfl : n = 2 := by omega
      rw [hE.out] at hA
      go_wp2
      go_end0
      exact ⟨rfl, hA.out⟩
set_option maxRecDepth 100000 in
set_option maxHeartbeats 3200000 in
theorem uncross_is (i j : Nat) (hi : i < 16) (hj : j < 16) (b : Nat) (f : F) (w : World) (h : Blk w b 60 32 f) :
    Calls Try.prog 43 #[.pointer (some ⟨b, 0, none⟩), .int .i64 i, .int .i64 j] w fun e w' => e = .returned (.tuple #[]) ∧ Wk w b 60 32 (uncross i j f) w' := by
  have hS0 : Hid (Wk w b 60 32 (uncrossK i j 0 f) w) := ⟨h, Keep.refl _ _⟩
  have hiI : (i : Int) < 16 := by omega
  have hjI : (j : Int) < 16 := by omega
  have hij := Lib.hid (And.intro hi hj)
  have hE : Hid (uncrossK i j 2 f = uncross i j f) := rfl
  clear h
  go_enter Try.func43, Try.ntmps43
  go_wp2
  go_loopw [7] (fun q wr => ∃ n : Nat, n ≤ 2 ∧ q = .int .i64 n ∧ Hid (Wk w b 60 32 (uncrossK i j n f) wr)) (fun q _ => 2 - (intOf q).toNat)
  case atStart => exact ⟨0, by omega, rfl, hS0⟩
  case round =>
    clear hS0
    obtain ⟨n, hn, rfl, hA⟩ := hrel
    obtain ⟨wo, rfl⟩ : ∃ wo : World, wo = wr := ⟨_, rfl⟩
    by_cases hlt : n < 2
    · have l0 := hA.out.1.cell (i * 2 + n) (by have := hij.out; omega)
      have l1 := hA.out.1.cell (j * 2 + n) (by have := hij.out; omega)
      have hst : uncrossK i j (n + 1) f = fun c => if c = j * 2 + n then (bk (uncrossK i j n f (j * 2 + n)) (uncrossK i j n f (i * 2 + n)) 64).2 else if c = i * 2 + n then (bk (uncrossK i j n f (j * 2 + n)) (uncrossK i j n f (i * 2 + n)) 64).1 else uncrossK i j n f c := by
        show uncrossN i j n (uncrossK i j n f) = _
        unfold uncrossN po
        rw [show 2 * i + n = i * 2 + n by omega, show 2 * j + n = j * 2 + n by omega]
      have hq := fun w => back_is (uncrossK i j n f (j * 2 + n)) (uncrossK i j n f (i * 2 + n)) 64 w
      have hnI : (n : Int) < 2 := by omega
      obtain ⟨g, hg⟩ : ∃ g, uncrossK i j n f = g := ⟨_, rfl⟩
      rw [hg] at l0 l1 hst hq hA
      obtain ⟨x, hx⟩ : ∃ x, g (i * 2 + n) = x := ⟨_, rfl⟩
      obtain ⟨y, hy⟩ : ∃ y, g (j * 2 + n) = y := ⟨_, rfl⟩
      rw [hx, hy] at hst hq
      rw [hx] at l0
      rw [hy] at l1
      generalize (bk y x 64).1 = X at *
      generalize (bk y x 64).2 = Y at *
      have hst := Lib.hid hst
      have hbd : Hid (i * 2 + n < 32 ∧ j * 2 + n < 32) := by show _ ∧ _; have := hij.out; omega
      have hx := Lib.hid hx
      have hy := Lib.hid hy
      have hq := Lib.hid hq
      clear hg l0 l1
      go_upto_region 3 with (fail)
      obtain ⟨I, hI⟩ : ∃ I : (Nat → Bool) → Act → World → Prop, ∀ dn ac wc, I dn ac wc ↔ ∃ s10 s11 s12 s13 s14 s15 s16 s17 s18 s19 s20 s21 s22 s23 s24 s25 s26 s27 s28 s29 s30 s31 s32 s33 s34 s35 s36 s37 s38 s39, ac = ⟨#[.pointer (some ⟨b, 0, none⟩), .int .i64 (i : Nat), .int .i64 (j : Nat), undef, undef, undef, .int .i64 (n : Nat), .int .i64 (n : Nat), .bool true, .int .i64 (n : Nat), s10, s11, s12, s13, s14, s15, s16, s17, s18, s19, s20, s21, s22, s23, s24, s25, s26, s27, s28, s29, s30, s31, s32, s33, s34, s35, s36, s37, s38, s39, u40], []⟩ ∧
        St2 wc dn [(0, .pointer (some ⟨b, 0, none⟩), s11), (1, .int .i64 (i : Nat), s12), (2, .int .i64 (n : Nat), s13), (3, .pointer (some ⟨b, 0, none⟩), s14), (4, .int .i64 (j : Nat), s15), (5, .int .i64 (n : Nat), s16), (6, .pointer (some ⟨b, 0, none⟩), s17), (7, .int .i64 (j : Nat), s18), (8, .int .i64 (n : Nat), s19), (9, .pointer (some ⟨b, 0, none⟩), s20), (10, .pointer (some ⟨b, j * 2, none⟩), s21), (11, .pointer (some ⟨b, j * 2 + n, none⟩), s22), (12, .int .i64 y, s23), (13, .pointer (some ⟨b, 0, none⟩), s24), (14, .int .i64 (i : Nat), s25), (15, .int .i64 (n : Nat), s26), (16, .pointer (some ⟨b, 0, none⟩), s27), (17, .pointer (some ⟨b, i * 2, none⟩), s28), (18, .pointer (some ⟨b, i * 2 + n, none⟩), s29), (19, .int .i64 x, s30), (20, .tuple #[.int .i64 X, .int .i64 Y], s31), (21, .tuple #[.int .i64 X, .int .i64 Y], s10), (22, .int .i64 X, s32), (23, .int .i64 Y, s33), (24, .pointer (some ⟨b, 0, none⟩), s34), (25, .pointer (some ⟨b, i * 2, none⟩), s35), (26, .pointer (some ⟨b, i * 2 + n, none⟩), s36), (28, .pointer (some ⟨b, 0, none⟩), s37), (29, .pointer (some ⟨b, j * 2, none⟩), s38), (30, .pointer (some ⟨b, j * 2 + n, none⟩), s39)] (Wk w b 60 32 g) (Wk w b 60 32 fun m => if m = i * 2 + n then X else g m) (Wk w b 60 32 fun m => if m = j * 2 + n then Y else if m = i * 2 + n then X else g m) 27 31 [12, 19] := ⟨_, fun _ _ _ => Iff.rfl⟩
      have HI := Lib.hid hI
      clear hI
      refine wp_region_inv (by kernel_rfl) (by kernel_rfl) I ?_ ?_ ?_
      · exact (HI.out _ _ _).2 ⟨_, _, _, _, _, _, _, _, _, _, _, _, _, _, _, _, _, _, _, _, _, _, _, _, _, _, _, _, _, _, rfl, St2.start _ _ _ _ _ _ _ _ hA.out (Wk.stays _ _ _ _ _)⟩
      · intro i o dn ac wc ho hd hdep hIn
        obtain ⟨s10, s11, s12, s13, s14, s15, s16, s17, s18, s19, s20, s21, s22, s23, s24, s25, s26, s27, s28, s29, s30, s31, s32, s33, s34, s35, s36, s37, s38, s39, rfl, hT⟩ := (HI.out _ _ _).1 hIn
        clear hIn
        rcases i with _ | _ | _ | _ | _ | _ | _ | _ | _ | _ | _ | _ | _ | _ | _ | _ | _ | _ | _ | _ | _ | _ | _ | _ | _ | _ | _ | _ | _ | _ | _ | _ | i
        · obtain rfl := Option.some.inj ho
          have HT := Lib.hid hT
          clear hT hdep
          refine .inl ?_
          unfold Oper.wp
          go_simp
          exact (HI.out _ _ _).2 ⟨_, _, _, _, _, _, _, _, _, _, _, _, _, _, _, _, _, _, _, _, _, _, _, _, _, _, _, _, _, _, rfl, (HT.out).put 0 0 (.pointer (some ⟨b, 0, none⟩)) (by decide) rfl⟩
        · obtain rfl := Option.some.inj ho
          have HT := Lib.hid hT
          clear hT hdep
          refine .inl ?_
          unfold Oper.wp
          go_simp
          exact (HI.out _ _ _).2 ⟨_, _, _, _, _, _, _, _, _, _, _, _, _, _, _, _, _, _, _, _, _, _, _, _, _, _, _, _, _, _, rfl, (HT.out).put 1 1 (.int .i64 (i : Nat)) (by decide) rfl⟩
        · obtain rfl := Option.some.inj ho
          have HT := Lib.hid hT
          clear hT hdep
          refine .inl ?_
          unfold Oper.wp
          go_simp
          exact (HI.out _ _ _).2 ⟨_, _, _, _, _, _, _, _, _, _, _, _, _, _, _, _, _, _, _, _, _, _, _, _, _, _, _, _, _, _, rfl, (HT.out).put 2 2 (.int .i64 (n : Nat)) (by decide) rfl⟩
        · obtain rfl := Option.some.inj ho
          have HT := Lib.hid hT
          clear hT hdep
          refine .inl ?_
          unfold Oper.wp
          go_simp
          exact (HI.out _ _ _).2 ⟨_, _, _, _, _, _, _, _, _, _, _, _, _, _, _, _, _, _, _, _, _, _, _, _, _, _, _, _, _, _, rfl, (HT.out).put 3 3 (.pointer (some ⟨b, 0, none⟩)) (by decide) rfl⟩
        · obtain rfl := Option.some.inj ho
          have HT := Lib.hid hT
          clear hT hdep
          refine .inl ?_
          unfold Oper.wp
          go_simp
          exact (HI.out _ _ _).2 ⟨_, _, _, _, _, _, _, _, _, _, _, _, _, _, _, _, _, _, _, _, _, _, _, _, _, _, _, _, _, _, rfl, (HT.out).put 4 4 (.int .i64 (j : Nat)) (by decide) rfl⟩
        · obtain rfl := Option.some.inj ho
          have HT := Lib.hid hT
          clear hT hdep
          refine .inl ?_
          unfold Oper.wp
          go_simp
          exact (HI.out _ _ _).2 ⟨_, _, _, _, _, _, _, _, _, _, _, _, _, _, _, _, _, _, _, _, _, _, _, _, _, _, _, _, _, _, rfl, (HT.out).put 5 5 (.int .i64 (n : Nat)) (by decide) rfl⟩
        · obtain rfl := Option.some.inj ho
          have HT := Lib.hid hT
          clear hT hdep
          refine .inl ?_
          unfold Oper.wp
          go_simp
          exact (HI.out _ _ _).2 ⟨_, _, _, _, _, _, _, _, _, _, _, _, _, _, _, _, _, _, _, _, _, _, _, _, _, _, _, _, _, _, rfl, (HT.out).put 6 6 (.pointer (some ⟨b, 0, none⟩)) (by decide) rfl⟩
        · obtain rfl := Option.some.inj ho
          have HT := Lib.hid hT
          clear hT hdep
          refine .inl ?_
          unfold Oper.wp
          go_simp
          exact (HI.out _ _ _).2 ⟨_, _, _, _, _, _, _, _, _, _, _, _, _, _, _, _, _, _, _, _, _, _, _, _, _, _, _, _, _, _, rfl, (HT.out).put 7 7 (.int .i64 (j : Nat)) (by decide) rfl⟩
        · obtain rfl := Option.some.inj ho
          have HT := Lib.hid hT
          clear hT hdep
          refine .inl ?_
          unfold Oper.wp
          go_simp
          exact (HI.out _ _ _).2 ⟨_, _, _, _, _, _, _, _, _, _, _, _, _, _, _, _, _, _, _, _, _, _, _, _, _, _, _, _, _, _, rfl, (HT.out).put 8 8 (.int .i64 (n : Nat)) (by decide) rfl⟩
        · obtain rfl := Option.some.inj ho
          have e6 := hT.vals _ (List.Mem.tail _ (List.Mem.tail _ (List.Mem.tail _ (List.Mem.tail _ (List.Mem.tail _ (List.Mem.tail _ (List.Mem.head _))))))) (hdep ⟨6, .data⟩ (by simp) rfl)
          dsimp only at e6
          subst e6
          have HT := Lib.hid hT
          clear hT hdep
          refine .inl ?_
          unfold Oper.wp
          go_simp
          exact (HI.out _ _ _).2 ⟨_, _, _, _, _, _, _, _, _, _, _, _, _, _, _, _, _, _, _, _, _, _, _, _, _, _, _, _, _, _, rfl, (HT.out).put 9 9 (.pointer (some ⟨b, 0, none⟩)) (by decide) rfl⟩
        · obtain rfl := Option.some.inj ho
          have e9 := hT.vals _ (List.Mem.tail _ (List.Mem.tail _ (List.Mem.tail _ (List.Mem.tail _ (List.Mem.tail _ (List.Mem.tail _ (List.Mem.tail _ (List.Mem.tail _ (List.Mem.tail _ (List.Mem.head _)))))))))) (hdep ⟨9, .data⟩ (by simp) rfl)
          dsimp only at e9
          subst e9
          have e7 := hT.vals _ (List.Mem.tail _ (List.Mem.tail _ (List.Mem.tail _ (List.Mem.tail _ (List.Mem.tail _ (List.Mem.tail _ (List.Mem.tail _ (List.Mem.head _)))))))) (hdep ⟨7, .data⟩ (by simp) rfl)
          dsimp only at e7
          subst e7
          have HT := Lib.hid hT
          clear hT hdep
          refine .inl ?_
          unfold Oper.wp
          go_simp
          exact (HI.out _ _ _).2 ⟨_, _, _, _, _, _, _, _, _, _, _, _, _, _, _, _, _, _, _, _, _, _, _, _, _, _, _, _, _, _, rfl, (HT.out).put 10 10 (.pointer (some ⟨b, j * 2, none⟩)) (by decide) rfl⟩
        · obtain rfl := Option.some.inj ho
          have e10 := hT.vals _ (List.Mem.tail _ (List.Mem.tail _ (List.Mem.tail _ (List.Mem.tail _ (List.Mem.tail _ (List.Mem.tail _ (List.Mem.tail _ (List.Mem.tail _ (List.Mem.tail _ (List.Mem.tail _ (List.Mem.head _))))))))))) (hdep ⟨10, .data⟩ (by simp) rfl)
          dsimp only at e10
          subst e10
          have e8 := hT.vals _ (List.Mem.tail _ (List.Mem.tail _ (List.Mem.tail _ (List.Mem.tail _ (List.Mem.tail _ (List.Mem.tail _ (List.Mem.tail _ (List.Mem.tail _ (List.Mem.head _))))))))) (hdep ⟨8, .data⟩ (by simp) rfl)
          dsimp only at e8
          subst e8
          have HT := Lib.hid hT
          clear hT hdep
          refine .inl ?_
          unfold Oper.wp
          go_simp
          exact (HI.out _ _ _).2 ⟨_, _, _, _, _, _, _, _, _, _, _, _, _, _, _, _, _, _, _, _, _, _, _, _, _, _, _, _, _, _, rfl, (HT.out).put 11 11 (.pointer (some ⟨b, j * 2 + n, none⟩)) (by decide) rfl⟩
        · obtain rfl := Option.some.inj ho
          have e11 := hT.vals _ (List.Mem.tail _ (List.Mem.tail _ (List.Mem.tail _ (List.Mem.tail _ (List.Mem.tail _ (List.Mem.tail _ (List.Mem.tail _ (List.Mem.tail _ (List.Mem.tail _ (List.Mem.tail _ (List.Mem.tail _ (List.Mem.head _)))))))))))) (hdep ⟨11, .data⟩ (by simp) rfl)
          dsimp only at e11
          subst e11
          have hS := hT.at0 12 hd (by decide)
          have l0 := hS.1.cell (j * 2 + n) hbd.out.2
          rw [hy.out] at l0
          have HT := Lib.hid hT
          clear hT hdep hS
          refine .inl ?_
          unfold Oper.wp
          go_simp
          exact (HI.out _ _ _).2 ⟨_, _, _, _, _, _, _, _, _, _, _, _, _, _, _, _, _, _, _, _, _, _, _, _, _, _, _, _, _, _, rfl, (HT.out).put 12 12 (.int .i64 y) (by decide) rfl⟩
        · obtain rfl := Option.some.inj ho
          have HT := Lib.hid hT
          clear hT hdep
          refine .inl ?_
          unfold Oper.wp
          go_simp
          exact (HI.out _ _ _).2 ⟨_, _, _, _, _, _, _, _, _, _, _, _, _, _, _, _, _, _, _, _, _, _, _, _, _, _, _, _, _, _, rfl, (HT.out).put 13 13 (.pointer (some ⟨b, 0, none⟩)) (by decide) rfl⟩
        · obtain rfl := Option.some.inj ho
          have HT := Lib.hid hT
          clear hT hdep
          refine .inl ?_
          unfold Oper.wp
          go_simp
          exact (HI.out _ _ _).2 ⟨_, _, _, _, _, _, _, _, _, _, _, _, _, _, _, _, _, _, _, _, _, _, _, _, _, _, _, _, _, _, rfl, (HT.out).put 14 14 (.int .i64 (i : Nat)) (by decide) rfl⟩
        · obtain rfl := Option.some.inj ho
          have HT := Lib.hid hT
          clear hT hdep
          refine .inl ?_
          unfold Oper.wp
          go_simp
          exact (HI.out _ _ _).2 ⟨_, _, _, _, _, _, _, _, _, _, _, _, _, _, _, _, _, _, _, _, _, _, _, _, _, _, _, _, _, _, rfl, (HT.out).put 15 15 (.int .i64 (n : Nat)) (by decide) rfl⟩
        · obtain rfl := Option.some.inj ho
          have e13 := hT.vals _ (List.Mem.tail _ (List.Mem.tail _ (List.Mem.tail _ (List.Mem.tail _ (List.Mem.tail _ (List.Mem.tail _ (List.Mem.tail _ (List.Mem.tail _ (List.Mem.tail _ (List.Mem.tail _ (List.Mem.tail _ (List.Mem.tail _ (List.Mem.tail _ (List.Mem.head _)))))))))))))) (hdep ⟨13, .data⟩ (by simp) rfl)
          dsimp only at e13
          subst e13
          have HT := Lib.hid hT
          clear hT hdep
          refine .inl ?_
          unfold Oper.wp
          go_simp
          exact (HI.out _ _ _).2 ⟨_, _, _, _, _, _, _, _, _, _, _, _, _, _, _, _, _, _, _, _, _, _, _, _, _, _, _, _, _, _, rfl, (HT.out).put 16 16 (.pointer (some ⟨b, 0, none⟩)) (by decide) rfl⟩
        · obtain rfl := Option.some.inj ho
          have e16 := hT.vals _ (List.Mem.tail _ (List.Mem.tail _ (List.Mem.tail _ (List.Mem.tail _ (List.Mem.tail _ (List.Mem.tail _ (List.Mem.tail _ (List.Mem.tail _ (List.Mem.tail _ (List.Mem.tail _ (List.Mem.tail _ (List.Mem.tail _ (List.Mem.tail _ (List.Mem.tail _ (List.Mem.tail _ (List.Mem.tail _ (List.Mem.head _))))))))))))))))) (hdep ⟨16, .data⟩ (by simp) rfl)
          dsimp only at e16
          subst e16
          have e14 := hT.vals _ (List.Mem.tail _ (List.Mem.tail _ (List.Mem.tail _ (List.Mem.tail _ (List.Mem.tail _ (List.Mem.tail _ (List.Mem.tail _ (List.Mem.tail _ (List.Mem.tail _ (List.Mem.tail _ (List.Mem.tail _ (List.Mem.tail _ (List.Mem.tail _ (List.Mem.tail _ (List.Mem.head _))))))))))))))) (hdep ⟨14, .data⟩ (by simp) rfl)
          dsimp only at e14
          subst e14
          have HT := Lib.hid hT
          clear hT hdep
          refine .inl ?_
          unfold Oper.wp
          go_simp
          exact (HI.out _ _ _).2 ⟨_, _, _, _, _, _, _, _, _, _, _, _, _, _, _, _, _, _, _, _, _, _, _, _, _, _, _, _, _, _, rfl, (HT.out).put 17 17 (.pointer (some ⟨b, i * 2, none⟩)) (by decide) rfl⟩
        · obtain rfl := Option.some.inj ho
          have e17 := hT.vals _ (List.Mem.tail _ (List.Mem.tail _ (List.Mem.tail _ (List.Mem.tail _ (List.Mem.tail _ (List.Mem.tail _ (List.Mem.tail _ (List.Mem.tail _ (List.Mem.tail _ (List.Mem.tail _ (List.Mem.tail _ (List.Mem.tail _ (List.Mem.tail _ (List.Mem.tail _ (List.Mem.tail _ (List.Mem.tail _ (List.Mem.tail _ (List.Mem.head _)))))))))))))))))) (hdep ⟨17, .data⟩ (by simp) rfl)
          dsimp only at e17
          subst e17
          have e15 := hT.vals _ (List.Mem.tail _ (List.Mem.tail _ (List.Mem.tail _ (List.Mem.tail _ (List.Mem.tail _ (List.Mem.tail _ (List.Mem.tail _ (List.Mem.tail _ (List.Mem.tail _ (List.Mem.tail _ (List.Mem.tail _ (List.Mem.tail _ (List.Mem.tail _ (List.Mem.tail _ (List.Mem.tail _ (List.Mem.head _)))))))))))))))) (hdep ⟨15, .data⟩ (by simp) rfl)
          dsimp only at e15
          subst e15
          have HT := Lib.hid hT
          clear hT hdep
          refine .inl ?_
          unfold Oper.wp
          go_simp
          exact (HI.out _ _ _).2 ⟨_, _, _, _, _, _, _, _, _, _, _, _, _, _, _, _, _, _, _, _, _, _, _, _, _, _, _, _, _, _, rfl, (HT.out).put 18 18 (.pointer (some ⟨b, i * 2 + n, none⟩)) (by decide) rfl⟩
        · obtain rfl := Option.some.inj ho
          have e18 := hT.vals _ (List.Mem.tail _ (List.Mem.tail _ (List.Mem.tail _ (List.Mem.tail _ (List.Mem.tail _ (List.Mem.tail _ (List.Mem.tail _ (List.Mem.tail _ (List.Mem.tail _ (List.Mem.tail _ (List.Mem.tail _ (List.Mem.tail _ (List.Mem.tail _ (List.Mem.tail _ (List.Mem.tail _ (List.Mem.tail _ (List.Mem.tail _ (List.Mem.tail _ (List.Mem.head _))))))))))))))))))) (hdep ⟨18, .data⟩ (by simp) rfl)
          dsimp only at e18
          subst e18
          have hS := hT.at0 19 hd (by decide)
          have l0 := hS.1.cell (i * 2 + n) hbd.out.1
          rw [hx.out] at l0
          have HT := Lib.hid hT
          clear hT hdep hS
          refine .inl ?_
          unfold Oper.wp
          go_simp
          exact (HI.out _ _ _).2 ⟨_, _, _, _, _, _, _, _, _, _, _, _, _, _, _, _, _, _, _, _, _, _, _, _, _, _, _, _, _, _, rfl, (HT.out).put 19 19 (.int .i64 x) (by decide) rfl⟩
        · obtain rfl := Option.some.inj ho
          have e12 := hT.vals _ (List.Mem.tail _ (List.Mem.tail _ (List.Mem.tail _ (List.Mem.tail _ (List.Mem.tail _ (List.Mem.tail _ (List.Mem.tail _ (List.Mem.tail _ (List.Mem.tail _ (List.Mem.tail _ (List.Mem.tail _ (List.Mem.tail _ (List.Mem.head _))))))))))))) (hdep ⟨12, .data⟩ (by simp) rfl)
          dsimp only at e12
          subst e12
          have e19 := hT.vals _ (List.Mem.tail _ (List.Mem.tail _ (List.Mem.tail _ (List.Mem.tail _ (List.Mem.tail _ (List.Mem.tail _ (List.Mem.tail _ (List.Mem.tail _ (List.Mem.tail _ (List.Mem.tail _ (List.Mem.tail _ (List.Mem.tail _ (List.Mem.tail _ (List.Mem.tail _ (List.Mem.tail _ (List.Mem.tail _ (List.Mem.tail _ (List.Mem.tail _ (List.Mem.tail _ (List.Mem.head _)))))))))))))))))))) (hdep ⟨19, .data⟩ (by simp) rfl)
          dsimp only at e19
          subst e19
          have HT := Lib.hid hT
          clear hT hdep
          refine .inl ?_
          unfold Oper.wp
          go_simp
          (with_reducible refine (hq.out _).mono ?_); rintro e w1 ⟨rfl, hb1⟩
          exact (HI.out _ _ _).2 ⟨_, _, _, _, _, _, _, _, _, _, _, _, _, _, _, _, _, _, _, _, _, _, _, _, _, _, _, _, _, _, rfl, (HT.out.later (Wk.stays _ _ _ _ _) (Wk.stays _ _ _ _ _) (Wk.stays _ _ _ _ _) hb1).put 20 20 (.tuple #[.int .i64 X, .int .i64 Y]) (by decide) rfl⟩
        · obtain rfl := Option.some.inj ho
          have e20 := hT.vals _ (List.Mem.tail _ (List.Mem.tail _ (List.Mem.tail _ (List.Mem.tail _ (List.Mem.tail _ (List.Mem.tail _ (List.Mem.tail _ (List.Mem.tail _ (List.Mem.tail _ (List.Mem.tail _ (List.Mem.tail _ (List.Mem.tail _ (List.Mem.tail _ (List.Mem.tail _ (List.Mem.tail _ (List.Mem.tail _ (List.Mem.tail _ (List.Mem.tail _ (List.Mem.tail _ (List.Mem.tail _ (List.Mem.head _))))))))))))))))))))) (hdep ⟨20, .data⟩ (by simp) rfl)
          dsimp only at e20
          subst e20
          have HT := Lib.hid hT
          clear hT hdep
          refine .inl ?_
          unfold Oper.wp
          go_simp
          exact (HI.out _ _ _).2 ⟨_, _, _, _, _, _, _, _, _, _, _, _, _, _, _, _, _, _, _, _, _, _, _, _, _, _, _, _, _, _, rfl, (HT.out).put 21 21 (.tuple #[.int .i64 X, .int .i64 Y]) (by decide) rfl⟩
        · obtain rfl := Option.some.inj ho
          have e21 := hT.vals _ (List.Mem.tail _ (List.Mem.tail _ (List.Mem.tail _ (List.Mem.tail _ (List.Mem.tail _ (List.Mem.tail _ (List.Mem.tail _ (List.Mem.tail _ (List.Mem.tail _ (List.Mem.tail _ (List.Mem.tail _ (List.Mem.tail _ (List.Mem.tail _ (List.Mem.tail _ (List.Mem.tail _ (List.Mem.tail _ (List.Mem.tail _ (List.Mem.tail _ (List.Mem.tail _ (List.Mem.tail _ (List.Mem.tail _ (List.Mem.head _)))))))))))))))))))))) (hdep ⟨21, .data⟩ (by simp) rfl)
          dsimp only at e21
          subst e21
          have HT := Lib.hid hT
          clear hT hdep
          refine .inl ?_
          unfold Oper.wp
          go_simp
          exact (HI.out _ _ _).2 ⟨_, _, _, _, _, _, _, _, _, _, _, _, _, _, _, _, _, _, _, _, _, _, _, _, _, _, _, _, _, _, rfl, (HT.out).put 22 22 (.int .i64 X) (by decide) rfl⟩
        · obtain rfl := Option.some.inj ho
          have e21 := hT.vals _ (List.Mem.tail _ (List.Mem.tail _ (List.Mem.tail _ (List.Mem.tail _ (List.Mem.tail _ (List.Mem.tail _ (List.Mem.tail _ (List.Mem.tail _ (List.Mem.tail _ (List.Mem.tail _ (List.Mem.tail _ (List.Mem.tail _ (List.Mem.tail _ (List.Mem.tail _ (List.Mem.tail _ (List.Mem.tail _ (List.Mem.tail _ (List.Mem.tail _ (List.Mem.tail _ (List.Mem.tail _ (List.Mem.tail _ (List.Mem.head _)))))))))))))))))))))) (hdep ⟨21, .data⟩ (by simp) rfl)
          dsimp only at e21
          subst e21
          have HT := Lib.hid hT
          clear hT hdep
          refine .inl ?_
          unfold Oper.wp
          go_simp
          exact (HI.out _ _ _).2 ⟨_, _, _, _, _, _, _, _, _, _, _, _, _, _, _, _, _, _, _, _, _, _, _, _, _, _, _, _, _, _, rfl, (HT.out).put 23 23 (.int .i64 Y) (by decide) rfl⟩
        · obtain rfl := Option.some.inj ho
          have e0 := hT.vals _ (List.Mem.head _) (hdep ⟨0, .data⟩ (by simp) rfl)
          dsimp only at e0
          subst e0
          have HT := Lib.hid hT
          clear hT hdep
          refine .inl ?_
          unfold Oper.wp
          go_simp
          exact (HI.out _ _ _).2 ⟨_, _, _, _, _, _, _, _, _, _, _, _, _, _, _, _, _, _, _, _, _, _, _, _, _, _, _, _, _, _, rfl, (HT.out).put 24 24 (.pointer (some ⟨b, 0, none⟩)) (by decide) rfl⟩
        · obtain rfl := Option.some.inj ho
          have e24 := hT.vals _ (List.Mem.tail _ (List.Mem.tail _ (List.Mem.tail _ (List.Mem.tail _ (List.Mem.tail _ (List.Mem.tail _ (List.Mem.tail _ (List.Mem.tail _ (List.Mem.tail _ (List.Mem.tail _ (List.Mem.tail _ (List.Mem.tail _ (List.Mem.tail _ (List.Mem.tail _ (List.Mem.tail _ (List.Mem.tail _ (List.Mem.tail _ (List.Mem.tail _ (List.Mem.tail _ (List.Mem.tail _ (List.Mem.tail _ (List.Mem.tail _ (List.Mem.tail _ (List.Mem.tail _ (List.Mem.head _))))))))))))))))))))))))) (hdep ⟨24, .data⟩ (by simp) rfl)
          dsimp only at e24
          subst e24
          have e1 := hT.vals _ (List.Mem.tail _ (List.Mem.head _)) (hdep ⟨1, .data⟩ (by simp) rfl)
          dsimp only at e1
          subst e1
          have HT := Lib.hid hT
          clear hT hdep
          refine .inl ?_
          unfold Oper.wp
          go_simp
          exact (HI.out _ _ _).2 ⟨_, _, _, _, _, _, _, _, _, _, _, _, _, _, _, _, _, _, _, _, _, _, _, _, _, _, _, _, _, _, rfl, (HT.out).put 25 25 (.pointer (some ⟨b, i * 2, none⟩)) (by decide) rfl⟩
        · obtain rfl := Option.some.inj ho
          have e25 := hT.vals _ (List.Mem.tail _ (List.Mem.tail _ (List.Mem.tail _ (List.Mem.tail _ (List.Mem.tail _ (List.Mem.tail _ (List.Mem.tail _ (List.Mem.tail _ (List.Mem.tail _ (List.Mem.tail _ (List.Mem.tail _ (List.Mem.tail _ (List.Mem.tail _ (List.Mem.tail _ (List.Mem.tail _ (List.Mem.tail _ (List.Mem.tail _ (List.Mem.tail _ (List.Mem.tail _ (List.Mem.tail _ (List.Mem.tail _ (List.Mem.tail _ (List.Mem.tail _ (List.Mem.tail _ (List.Mem.tail _ (List.Mem.head _)))))))))))))))))))))))))) (hdep ⟨25, .data⟩ (by simp) rfl)
          dsimp only at e25
          subst e25
          have e2 := hT.vals _ (List.Mem.tail _ (List.Mem.tail _ (List.Mem.head _))) (hdep ⟨2, .data⟩ (by simp) rfl)
          dsimp only at e2
          subst e2
          have HT := Lib.hid hT
          clear hT hdep
          refine .inl ?_
          unfold Oper.wp
          go_simp
          exact (HI.out _ _ _).2 ⟨_, _, _, _, _, _, _, _, _, _, _, _, _, _, _, _, _, _, _, _, _, _, _, _, _, _, _, _, _, _, rfl, (HT.out).put 26 26 (.pointer (some ⟨b, i * 2 + n, none⟩)) (by decide) rfl⟩
        · obtain rfl := Option.some.inj ho
          have e26 := hT.vals _ (List.Mem.tail _ (List.Mem.tail _ (List.Mem.tail _ (List.Mem.tail _ (List.Mem.tail _ (List.Mem.tail _ (List.Mem.tail _ (List.Mem.tail _ (List.Mem.tail _ (List.Mem.tail _ (List.Mem.tail _ (List.Mem.tail _ (List.Mem.tail _ (List.Mem.tail _ (List.Mem.tail _ (List.Mem.tail _ (List.Mem.tail _ (List.Mem.tail _ (List.Mem.tail _ (List.Mem.tail _ (List.Mem.tail _ (List.Mem.tail _ (List.Mem.tail _ (List.Mem.tail _ (List.Mem.tail _ (List.Mem.tail _ (List.Mem.head _))))))))))))))))))))))))))) (hdep ⟨26, .data⟩ (by simp) rfl)
          dsimp only at e26
          subst e26
          have e22 := hT.vals _ (List.Mem.tail _ (List.Mem.tail _ (List.Mem.tail _ (List.Mem.tail _ (List.Mem.tail _ (List.Mem.tail _ (List.Mem.tail _ (List.Mem.tail _ (List.Mem.tail _ (List.Mem.tail _ (List.Mem.tail _ (List.Mem.tail _ (List.Mem.tail _ (List.Mem.tail _ (List.Mem.tail _ (List.Mem.tail _ (List.Mem.tail _ (List.Mem.tail _ (List.Mem.tail _ (List.Mem.tail _ (List.Mem.tail _ (List.Mem.tail _ (List.Mem.head _))))))))))))))))))))))) (hdep ⟨22, .data⟩ (by simp) rfl)
          dsimp only at e22
          subst e22
          have hpre : ∀ e ∈ [12, 19], dn e = true := by
            intro e he
            simp only [List.mem_cons, List.not_mem_nil, or_false] at he
            rcases he with rfl | rfl
            · exact hdep ⟨12, .phase⟩ (by simp) rfl
            · exact hdep ⟨19, .phase⟩ (by simp) rfl
          have hS := hT.at0 27 hd (by decide)
          have l0 := hS.1.cell (i * 2 + n) hbd.out.1
          have f0 := hS.1.free (i * 2 + n)
          have hnew := Lib.hid (hS.set (i * 2 + n) X)
          have HT := Lib.hid hT
          clear hT hdep hS
          refine .inl ?_
          unfold Oper.wp
          go_simp
          exact (HI.out _ _ _).2 ⟨_, _, _, _, _, _, _, _, _, _, _, _, _, _, _, _, _, _, _, _, _, _, _, _, _, _, _, _, _, _, rfl, HT.out.fst hd (by decide) hpre rfl hnew.out⟩
        · obtain rfl := Option.some.inj ho
          have e3 := hT.vals _ (List.Mem.tail _ (List.Mem.tail _ (List.Mem.tail _ (List.Mem.head _)))) (hdep ⟨3, .data⟩ (by simp) rfl)
          dsimp only at e3
          subst e3
          have HT := Lib.hid hT
          clear hT hdep
          refine .inl ?_
          unfold Oper.wp
          go_simp
          exact (HI.out _ _ _).2 ⟨_, _, _, _, _, _, _, _, _, _, _, _, _, _, _, _, _, _, _, _, _, _, _, _, _, _, _, _, _, _, rfl, (HT.out).put 28 27 (.pointer (some ⟨b, 0, none⟩)) (by decide) rfl⟩
        · obtain rfl := Option.some.inj ho
          have e28 := hT.vals _ (List.Mem.tail _ (List.Mem.tail _ (List.Mem.tail _ (List.Mem.tail _ (List.Mem.tail _ (List.Mem.tail _ (List.Mem.tail _ (List.Mem.tail _ (List.Mem.tail _ (List.Mem.tail _ (List.Mem.tail _ (List.Mem.tail _ (List.Mem.tail _ (List.Mem.tail _ (List.Mem.tail _ (List.Mem.tail _ (List.Mem.tail _ (List.Mem.tail _ (List.Mem.tail _ (List.Mem.tail _ (List.Mem.tail _ (List.Mem.tail _ (List.Mem.tail _ (List.Mem.tail _ (List.Mem.tail _ (List.Mem.tail _ (List.Mem.tail _ (List.Mem.head _)))))))))))))))))))))))))))) (hdep ⟨28, .data⟩ (by simp) rfl)
          dsimp only at e28
          subst e28
          have e4 := hT.vals _ (List.Mem.tail _ (List.Mem.tail _ (List.Mem.tail _ (List.Mem.tail _ (List.Mem.head _))))) (hdep ⟨4, .data⟩ (by simp) rfl)
          dsimp only at e4
          subst e4
          have HT := Lib.hid hT
          clear hT hdep
          refine .inl ?_
          unfold Oper.wp
          go_simp
          exact (HI.out _ _ _).2 ⟨_, _, _, _, _, _, _, _, _, _, _, _, _, _, _, _, _, _, _, _, _, _, _, _, _, _, _, _, _, _, rfl, (HT.out).put 29 28 (.pointer (some ⟨b, j * 2, none⟩)) (by decide) rfl⟩
        · obtain rfl := Option.some.inj ho
          have e29 := hT.vals _ (List.Mem.tail _ (List.Mem.tail _ (List.Mem.tail _ (List.Mem.tail _ (List.Mem.tail _ (List.Mem.tail _ (List.Mem.tail _ (List.Mem.tail _ (List.Mem.tail _ (List.Mem.tail _ (List.Mem.tail _ (List.Mem.tail _ (List.Mem.tail _ (List.Mem.tail _ (List.Mem.tail _ (List.Mem.tail _ (List.Mem.tail _ (List.Mem.tail _ (List.Mem.tail _ (List.Mem.tail _ (List.Mem.tail _ (List.Mem.tail _ (List.Mem.tail _ (List.Mem.tail _ (List.Mem.tail _ (List.Mem.tail _ (List.Mem.tail _ (List.Mem.tail _ (List.Mem.head _))))))))))))))))))))))))))))) (hdep ⟨29, .data⟩ (by simp) rfl)
          dsimp only at e29
          subst e29
          have e5 := hT.vals _ (List.Mem.tail _ (List.Mem.tail _ (List.Mem.tail _ (List.Mem.tail _ (List.Mem.tail _ (List.Mem.head _)))))) (hdep ⟨5, .data⟩ (by simp) rfl)
          dsimp only at e5
          subst e5
          have HT := Lib.hid hT
          clear hT hdep
          refine .inl ?_
          unfold Oper.wp
          go_simp
          exact (HI.out _ _ _).2 ⟨_, _, _, _, _, _, _, _, _, _, _, _, _, _, _, _, _, _, _, _, _, _, _, _, _, _, _, _, _, _, rfl, (HT.out).put 30 29 (.pointer (some ⟨b, j * 2 + n, none⟩)) (by decide) rfl⟩
        · obtain rfl := Option.some.inj ho
          have e30 := hT.vals _ (List.Mem.tail _ (List.Mem.tail _ (List.Mem.tail _ (List.Mem.tail _ (List.Mem.tail _ (List.Mem.tail _ (List.Mem.tail _ (List.Mem.tail _ (List.Mem.tail _ (List.Mem.tail _ (List.Mem.tail _ (List.Mem.tail _ (List.Mem.tail _ (List.Mem.tail _ (List.Mem.tail _ (List.Mem.tail _ (List.Mem.tail _ (List.Mem.tail _ (List.Mem.tail _ (List.Mem.tail _ (List.Mem.tail _ (List.Mem.tail _ (List.Mem.tail _ (List.Mem.tail _ (List.Mem.tail _ (List.Mem.tail _ (List.Mem.tail _ (List.Mem.tail _ (List.Mem.tail _ (List.Mem.head _)))))))))))))))))))))))))))))) (hdep ⟨30, .data⟩ (by simp) rfl)
          dsimp only at e30
          subst e30
          have e23 := hT.vals _ (List.Mem.tail _ (List.Mem.tail _ (List.Mem.tail _ (List.Mem.tail _ (List.Mem.tail _ (List.Mem.tail _ (List.Mem.tail _ (List.Mem.tail _ (List.Mem.tail _ (List.Mem.tail _ (List.Mem.tail _ (List.Mem.tail _ (List.Mem.tail _ (List.Mem.tail _ (List.Mem.tail _ (List.Mem.tail _ (List.Mem.tail _ (List.Mem.tail _ (List.Mem.tail _ (List.Mem.tail _ (List.Mem.tail _ (List.Mem.tail _ (List.Mem.tail _ (List.Mem.head _)))))))))))))))))))))))) (hdep ⟨23, .data⟩ (by simp) rfl)
          dsimp only at e23
          subst e23
          have hi1 := hdep ⟨27, .chain⟩ (by simp) rfl
          have hS := hT.at1 hd hi1
          have l0 := hS.1.cell (j * 2 + n) hbd.out.2
          have f0 := hS.1.free (j * 2 + n)
          have hnew := Lib.hid (hS.set (j * 2 + n) Y)
          have HT := Lib.hid hT
          clear hT hdep hS
          refine .inl ?_
          unfold Oper.wp
          go_simp
          exact (HI.out _ _ _).2 ⟨_, _, _, _, _, _, _, _, _, _, _, _, _, _, _, _, _, _, _, _, _, _, _, _, _, _, _, _, _, _, rfl, HT.out.snd (by decide) hi1 rfl hnew.out⟩
        · cases ho
      · intro dn ac wc hd hIn
        obtain ⟨s10, s11, s12, s13, s14, s15, s16, s17, s18, s19, s20, s21, s22, s23, s24, s25, s26, s27, s28, s29, s30, s31, s32, s33, s34, s35, s36, s37, s38, s39, rfl, hT⟩ := (HI.out _ _ _).1 hIn
        have hF := Lib.hid (hT.done (hd 31 (by decide)))
        clear HI hIn hT hd
        have hN : Hid (Wk w b 60 32 (uncrossK i j (n + 1) f) wc) := by show Wk _ _ _ _ _ _; rw [hst.out]; exact hF.out
        clear hF hst
        go_wp2
        go_roundw
        case rel => exact ⟨n + 1, by omega, by go_num, hN⟩
        case measure => simp [intOf]; omega
    · obtain rfl : n = 2 := by omega
      rw [hE.out] at hA
      go_wp2
      go_end0
      exact ⟨rfl, hA.out⟩
end Go.Proofs.Ythoemgiadadfcaa
