/- The law SipRounds: its walk. -/
import Derived.Test.YthmiomncgkmnoaaDoorSipKeys
import Derived.Test.YthmiomncgkmnoaaDoorTwoRows
import Derived.Test.YthmiomncgkmnoaaDoorEqRows
import Derived.Lib.QuietBelow
import Derived.Deep.DeepCutAuto
set_option linter.unusedVariables false
set_option linter.unusedSimpArgs false
namespace Go.Proofs.YthmiomncgkmnoaaDoor
open Go.RowKit Go.Sort Sip
theorem cells4_one (v : Four) : (cells4 v).all (·.oneCell') = true := by simp [cells4, Value.oneCell']
theorem eq_four (x y : Four) (w : World) : (Op.equalIn 10000 35 (.agg (cells4 x)) (.agg (cells4 y))).run Tryd.prog w = .ok (decide ([x.a, x.b, x.c, x.d] = [y.a, y.b, y.c, y.d])) w := by
  have h := run_equalIn_list (P := Tryd.prog) (fun n : Nat => Value.int .u64 n) (d := 9999) Tryd.underlying35 [x.a, x.b, x.c, x.d] [y.a, y.b, y.c, y.d] rfl rfl w (by kernel_rfl) (by kernel_rfl) (fun a b => by
    rw [show (9999 : Nat) = 9998 + 1 from rfl, run_equalIn_int w 9998 27 .u64 .u64 a b Tryd.underlying27]
    congr 1
    rw [Bool.eq_iff_iff]; simp; omega)
  exact h
theorem bcell {W w1 : World} (hb : Below W.heap.size W w1) : (∀ b o, b < W.heap.size → w1.cell? ⟨b, o, none⟩ = W.cell? ⟨b, o, none⟩) ∧ (∀ b o, b < W.heap.size → w1.frozen? ⟨b, o, none⟩ = W.frozen? ⟨b, o, none⟩) :=
  ⟨fun b o h => hb.cell (p := ⟨b, o, none⟩) h, fun b o h => hb.frozen (p := ⟨b, o, none⟩) h⟩
set_option maxRecDepth 100000 in
set_option maxHeartbeats 3200000 in
theorem sipRounds_walk (v u : Four) (w : World) (hv : v.Ok) (hu : u.Ok) (hg : Signs w) :
    Calls Tryd.prog 7 #[.agg (cells4 v), .agg (cells4 u)] w fun e w' => e = .returned (.bool true) ∧ Below w.heap.size w w' := by
  have r1 := fun w => roundV_is v hv w
  have r2 := fun w => roundV_is u hu w
  obtain ⟨V, hV⟩ : ∃ V, V = round v := ⟨_, rfl⟩
  obtain ⟨U, hU⟩ : ∃ U, U = round u := ⟨_, rfl⟩
  rw [← hV] at r1
  rw [← hU] at r2
  have HVO := Lib.hid hv
  have HUO := Lib.hid hu
  have HV := Lib.hid hV
  have HU := Lib.hid hU
  obtain ⟨a, b, c, d_⟩ := v
  obtain ⟨a', b', c', d'⟩ := u
  unfold cells4 at r1 r2
  unfold cells4
  dsimp only at r1 r2 ⊢
  clear hv hu hV hU
  go_enter Tryd.func7, Tryd.ntmps7
  go_upto_region 1 with (fail)
  obtain ⟨A, hA⟩ : ∃ A, A = w.heap.size := ⟨_, rfl⟩
  obtain ⟨W, hW⟩ : ∃ W, W = (w.alloc (.cells #[.int .u64 a, .int .u64 b, .int .u64 c, .int .u64 d_] 35)).alloc (.cells #[.int .u64 a', .int .u64 b', .int .u64 c', .int .u64 d'] 35) := ⟨_, rfl⟩
  have hs0 : A < W.heap.size := by rw [hW, hA]; simp; omega
  have hs1 : A + 1 < W.heap.size := by rw [hW, hA]; simp
  have hbw : Hid (Below w.heap.size w W) := by show Below w.heap.size w W; rw [hW]; exact ((Below.refl _ _).alloc (Nat.le_refl _) _).alloc (by simp) _
  have h0 : W.heap[A]? = some (.cells #[.int .u64 a, .int .u64 b, .int .u64 c, .int .u64 d_] 35 (0, 0)) := by
    rw [hW, hA, Go.heap_alloc_old _ _ (by simp)]; exact heap_alloc_new w _
  have h1 : W.heap[A + 1]? = some (.cells #[.int .u64 a', .int .u64 b', .int .u64 c', .int .u64 d'] 35 (0, 0)) := by
    have := heap_alloc_new (w.alloc (.cells #[.int .u64 a, .int .u64 b, .int .u64 c, .int .u64 d_] 35)) (.cells #[.int .u64 a', .int .u64 b', .int .u64 c', .int .u64 d'] 35)
    rw [World.size_alloc] at this
    rw [hW, hA]; exact this
  rw [← hW, ← hA]
  clear hW hA
  go_cut [5, 6] (fun s5 s6 wx => ∃ p q : Nat, s5 = .pointer (some ⟨p, 0, none⟩) ∧ s6 = .pointer (some ⟨q, 0, none⟩) ∧ Hid (Below W.heap.size W wx ∧ wx.heap[p]? = some (.cells (cells4 V) 35 (0, 0)) ∧ wx.heap[q]? = some (.cells (cells4 U) 35 (0, 0))))
  case first =>
    have zero35 : ∀ w, (zeroValue 35).run Tryd.prog w = .ok (.agg #[.int .u64 0, .int .u64 0, .int .u64 0, .int .u64 0]) w := fun w => by kernel_rfl
    obtain ⟨I, hI⟩ : ∃ I : (Nat → Bool) → Act → World → Prop, ∀ dn ac wc, I dn ac wc ↔ ∃ s5 s6 s7 s8 s9 s10, ac = ⟨#[.agg #[.int .u64 a, .int .u64 b, .int .u64 c, .int .u64 d_], .agg #[.int .u64 a', .int .u64 b', .int .u64 c', .int .u64 d'], .pointer (some ⟨A, 0, none⟩), .pointer (some ⟨A + 1, 0, none⟩), .bool false, s5, s6, s7, s8, s9, s10, undef, undef, undef, undef, undef, undef, undef, undef, undef, undef, undef, undef, undef, undef, undef, undef, undef, undef, undef, undef, undef, undef, undef, undef, undef, undef, undef, undef], []⟩ ∧
      Two W wc dn [(0, .agg #[.int .u64 a, .int .u64 b, .int .u64 c, .int .u64 d_], s7), (1, .agg (cells4 V), s8), (2, .agg #[.int .u64 a', .int .u64 b', .int .u64 c', .int .u64 d'], s9), (3, .agg (cells4 U), s10)] 35 #[.int .u64 0, .int .u64 0, .int .u64 0, .int .u64 0] (cells4 V) (cells4 U) 4 6 5 7 s5 s6 := ⟨_, fun _ _ _ => Iff.rfl⟩
    have HI := Lib.hid hI
    clear hI
    refine wp_region_inv (by kernel_rfl) (by kernel_rfl) I ?_ ?_ ?_
    · exact (HI.out _ _ _).2 ⟨_, _, _, _, _, _, rfl, Two.start ..⟩
    · intro i o dn ac wc ho hd hdep hIn
      obtain ⟨s5, s6, s7, s8, s9, s10, rfl, hT⟩ := (HI.out _ _ _).1 hIn
      clear hIn
      rcases i with _ | _ | _ | _ | _ | _ | _ | _ | i
      · obtain rfl := Option.some.inj ho
        refine .inl (wp_load_row 35 (.tmp 2) rfl A rfl 35 _ (0, 0) _ ((hT.below.block A hs0).trans h0) Tryd.underlying35 rfl (by kernel_rfl) ?_)
        exact (HI.out _ _ _).2 ⟨_, _, _, _, _, _, rfl, hT.val 0 (by decide) _ (by
          intro e he hde
          simp only [List.mem_cons, List.not_mem_nil, or_false] at he
          rcases he with rfl | rfl | rfl | rfl
          · rfl
          · first | rfl | (rw [also_ne _ (show 1 ≠ 0 by decide)] at hde; exact hT.vals _ (by simp) hde)
          · first | rfl | (rw [also_ne _ (show 2 ≠ 0 by decide)] at hde; exact hT.vals _ (by simp) hde)
          · first | rfl | (rw [also_ne _ (show 3 ≠ 0 by decide)] at hde; exact hT.vals _ (by simp) hde)
          ) (Below.refl _ _)⟩
      · obtain rfl := Option.some.inj ho
        have e7 := hT.vals _ (List.Mem.head _) (hdep ⟨0, .data⟩ (by simp) rfl)
        dsimp only at e7
        subst e7
        have HT := Lib.hid hT
        clear hT hdep
        refine .inl ?_
        unfold Oper.wp
        go_simp
        (with_reducible refine (r1 _).mono ?_); rintro e w1 ⟨rfl, hb1⟩
        have hT := HT.out
        exact (HI.out _ _ _).2 ⟨_, _, _, _, _, _, rfl, hT.val 1 (by decide) _ (by
          intro e he hde
          simp only [List.mem_cons, List.not_mem_nil, or_false] at he
          rcases he with rfl | rfl | rfl | rfl
          · first | rfl | (rw [also_ne _ (show 0 ≠ 1 by decide)] at hde; exact hT.vals _ (by simp) hde)
          · rfl
          · first | rfl | (rw [also_ne _ (show 2 ≠ 1 by decide)] at hde; exact hT.vals _ (by simp) hde)
          · first | rfl | (rw [also_ne _ (show 3 ≠ 1 by decide)] at hde; exact hT.vals _ (by simp) hde)
          ) hb1⟩
      · obtain rfl := Option.some.inj ho
        refine .inl (wp_load_row 35 (.tmp 3) rfl (A + 1) rfl 35 _ (0, 0) _ ((hT.below.block (A + 1) hs1).trans h1) Tryd.underlying35 rfl (by kernel_rfl) ?_)
        exact (HI.out _ _ _).2 ⟨_, _, _, _, _, _, rfl, hT.val 2 (by decide) _ (by
          intro e he hde
          simp only [List.mem_cons, List.not_mem_nil, or_false] at he
          rcases he with rfl | rfl | rfl | rfl
          · first | rfl | (rw [also_ne _ (show 0 ≠ 2 by decide)] at hde; exact hT.vals _ (by simp) hde)
          · first | rfl | (rw [also_ne _ (show 1 ≠ 2 by decide)] at hde; exact hT.vals _ (by simp) hde)
          · rfl
          · first | rfl | (rw [also_ne _ (show 3 ≠ 2 by decide)] at hde; exact hT.vals _ (by simp) hde)
          ) (Below.refl _ _)⟩
      · obtain rfl := Option.some.inj ho
        have e9 := hT.vals _ (List.Mem.tail _ (List.Mem.tail _ (List.Mem.head _))) (hdep ⟨2, .data⟩ (by simp) rfl)
        dsimp only at e9
        subst e9
        have HT := Lib.hid hT
        clear hT hdep
        refine .inl ?_
        unfold Oper.wp
        go_simp
        (with_reducible refine (r2 _).mono ?_); rintro e w1 ⟨rfl, hb1⟩
        have hT := HT.out
        exact (HI.out _ _ _).2 ⟨_, _, _, _, _, _, rfl, hT.val 3 (by decide) _ (by
          intro e he hde
          simp only [List.mem_cons, List.not_mem_nil, or_false] at he
          rcases he with rfl | rfl | rfl | rfl
          · first | rfl | (rw [also_ne _ (show 0 ≠ 3 by decide)] at hde; exact hT.vals _ (by simp) hde)
          · first | rfl | (rw [also_ne _ (show 1 ≠ 3 by decide)] at hde; exact hT.vals _ (by simp) hde)
          · first | rfl | (rw [also_ne _ (show 2 ≠ 3 by decide)] at hde; exact hT.vals _ (by simp) hde)
          · rfl
          ) hb1⟩
      · obtain rfl := Option.some.inj ho
        have hT' := (HI.out _ _ _).2 ⟨_, _, _, _, _, _, rfl, hT.make1 (W := W) hd (by decide) rfl⟩
        refine .inl ?_
        unfold Oper.wp
        go_simp
        exact hT'
      · obtain rfl := Option.some.inj ho
        have hT' := (HI.out _ _ _).2 ⟨_, _, _, _, _, _, rfl, hT.make2 (W := W) hd (by decide) rfl⟩
        refine .inl ?_
        unfold Oper.wp
        go_simp
        exact hT'
      · obtain rfl := Option.some.inj ho
        have e8 := hT.vals _ (List.Mem.tail _ (List.Mem.head _)) (hdep ⟨1, .data⟩ (by simp) rfl)
        dsimp only at e8
        subst e8
        obtain ⟨p, rfl, ⟨o, ho, hz⟩, hT'⟩ := hT.fill1 (hdep ⟨4, .data⟩ (by simp) rfl) (by decide) rfl
        obtain rfl := hz hd
        refine .inl (wp_store_row 35 (.tmp 5) (.tmp 8) rfl p (cells4 V) rfl rfl 35 _ ho (by kernel_rfl) (by rfl) (cells4_one V) ?_)
        exact (HI.out _ _ _).2 ⟨_, _, _, _, _, _, rfl, hT'⟩
      · obtain rfl := Option.some.inj ho
        have e10 := hT.vals _ (List.Mem.tail _ (List.Mem.tail _ (List.Mem.tail _ (List.Mem.head _)))) (hdep ⟨3, .data⟩ (by simp) rfl)
        dsimp only at e10
        subst e10
        obtain ⟨p, rfl, ⟨o, ho, hz⟩, hT'⟩ := hT.fill2 (hdep ⟨5, .data⟩ (by simp) rfl) (by decide) rfl
        obtain rfl := hz hd
        refine .inl (wp_store_row 35 (.tmp 6) (.tmp 10) rfl p (cells4 U) rfl rfl 35 _ ho (by kernel_rfl) (by rfl) (cells4_one U) ?_)
        exact (HI.out _ _ _).2 ⟨_, _, _, _, _, _, rfl, hT'⟩
      · cases ho
    · intro dn ac wc hd hIn
      obtain ⟨s5, s6, s7, s8, s9, s10, rfl, hT⟩ := (HI.out _ _ _).1 hIn
      obtain ⟨p, q, rfl, rfl, h3, h4, h5⟩ := hT.done ⟨hd 4 (by decide), hd 6 (by decide), hd 5 (by decide), hd 7 (by decide)⟩
      clear HI hIn hT hd r1 r2
      go_wp2_with fail
      go_meet
      exact ⟨p, q, rfl, rfl, Lib.hid ⟨h3, h4, h5⟩⟩
  case rest =>
    obtain ⟨p, q, rfl, rfl, hfin⟩ := hcut
    obtain ⟨hb3, hp, hq⟩ := hfin.out
    have hws : A < wc.heap.size ∧ A + 1 < wc.heap.size := by have := hb3.size; omega
    have g0 := (hb3.block A hs0).trans h0
    have g1 := (hb3.block (A + 1) hs1).trans h1
    have hbel : Below w.heap.size w wc := hbw.out.trans (hb3.mono hbw.out.size)
    have HBL := Lib.hid hbel
    have cA : ∀ d os, Calls Tryd.prog 15 #[] (grow (redrawn wc d) os) fun e w'' => e = .returned (.bool true) ∧ ∃ p : Regrown, w'' = grow (redrawn wc p.d) p.os := fun d os => Calls.regrown_of (sipAwake_is _ ((hg.below hbel).below (below_regrown wc d os)))
    have hVo := round_ok HVO.out
    rw [← HV.out] at hVo
    have hUo := round_ok HUO.out
    rw [← HU.out] at hUo
    have cV : ∀ d os, Calls Tryd.prog 22 #[.agg #[.int .u64 V.a, .int .u64 V.b, .int .u64 V.c, .int .u64 V.d]] (grow (redrawn wc d) os) fun e w'' => e = .returned (.agg #[.int .u64 a, .int .u64 b, .int .u64 c, .int .u64 d_]) ∧ ∃ p : Regrown, w'' = grow (redrawn wc p.d) p.os := fun d os => by
      have := back_is V hVo (grow (redrawn wc d) os)
      rw [HV.out, back_round _ HVO.out, ← HV.out] at this
      exact Calls.regrown_of this
    have cU : ∀ d os, Calls Tryd.prog 22 #[.agg #[.int .u64 U.a, .int .u64 U.b, .int .u64 U.c, .int .u64 U.d]] (grow (redrawn wc d) os) fun e w'' => e = .returned (.agg #[.int .u64 a', .int .u64 b', .int .u64 c', .int .u64 d']) ∧ ∃ p : Regrown, w'' = grow (redrawn wc p.d) p.os := fun d os => by
      have := back_is U hUo (grow (redrawn wc d) os)
      rw [HU.out, back_round _ HUO.out, ← HU.out] at this
      exact Calls.regrown_of this
    have cR : ∀ d os, Calls Tryd.prog 23 #[.agg #[.int .u64 a, .int .u64 b, .int .u64 c, .int .u64 d_]] (grow (redrawn wc d) os) fun e w'' => e = .returned (.agg #[.int .u64 V.a, .int .u64 V.b, .int .u64 V.c, .int .u64 V.d]) ∧ ∃ p : Regrown, w'' = grow (redrawn wc p.d) p.os := fun d os => by
      have := refRound_is ⟨a, b, c, d_⟩ HVO.out (grow (redrawn wc d) os)
      rw [← HV.out] at this
      exact Calls.regrown_of this
    obtain ⟨D, hD⟩ : ∃ D, D = decide ([a, b, c, d_] = [a', b', c', d']) := ⟨_, rfl⟩
    have hVU : decide ([V.a, V.b, V.c, V.d] = [U.a, U.b, U.c, U.d]) = D := by
      rw [hD]
      apply decide_eq_decide.2
      constructor
      · intro h
        have h' : V = U := by
          obtain ⟨x1, x2, x3, x4⟩ := V
          obtain ⟨y1, y2, y3, y4⟩ := U
          simpa using h
        have e1 := back_round _ HVO.out
        have e2 := back_round _ HUO.out
        rw [← HV.out, h'] at e1
        rw [← HU.out, e1] at e2
        simpa using e2
      · intro h
        have h' : (⟨a, b, c, d_⟩ : Four) = ⟨a', b', c', d'⟩ := by simpa using h
        rw [HV.out, HU.out, h']
    have q1 : ∀ w, (Op.equalIn 10000 35 (.agg #[.int .u64 a, .int .u64 b, .int .u64 c, .int .u64 d_]) (.agg #[.int .u64 a, .int .u64 b, .int .u64 c, .int .u64 d_])).run Tryd.prog w = .ok true w := fun w => by
      have := eq_four ⟨a, b, c, d_⟩ ⟨a, b, c, d_⟩ w
      rw [decide_eq_true rfl] at this
      exact this
    have q2 : ∀ w, (Op.equalIn 10000 35 (.agg #[.int .u64 a', .int .u64 b', .int .u64 c', .int .u64 d']) (.agg #[.int .u64 a', .int .u64 b', .int .u64 c', .int .u64 d'])).run Tryd.prog w = .ok true w := fun w => by
      have := eq_four ⟨a', b', c', d'⟩ ⟨a', b', c', d'⟩ w
      rw [decide_eq_true rfl] at this
      exact this
    have q3 : ∀ w, (Op.equalIn 10000 35 (.agg #[.int .u64 V.a, .int .u64 V.b, .int .u64 V.c, .int .u64 V.d]) (.agg #[.int .u64 V.a, .int .u64 V.b, .int .u64 V.c, .int .u64 V.d])).run Tryd.prog w = .ok true w := fun w => by
      have := eq_four V V w
      rw [decide_eq_true rfl] at this
      exact this
    have q4 : ∀ w, (Op.equalIn 10000 35 (.agg #[.int .u64 V.a, .int .u64 V.b, .int .u64 V.c, .int .u64 V.d]) (.agg #[.int .u64 U.a, .int .u64 U.b, .int .u64 U.c, .int .u64 U.d])).run Tryd.prog w = .ok D w := fun w => by
      have := eq_four V U w
      rw [hVU] at this
      exact this
    have q5 : ∀ w, (Op.equalIn 10000 35 (.agg #[.int .u64 a, .int .u64 b, .int .u64 c, .int .u64 d_]) (.agg #[.int .u64 a', .int .u64 b', .int .u64 c', .int .u64 d'])).run Tryd.prog w = .ok D w := fun w => by
      have := eq_four ⟨a, b, c, d_⟩ ⟨a', b', c', d'⟩ w
      rw [← hD] at this
      exact this
    have la0 : ∀ d os, (grow (redrawn wc d) os).cell? ⟨A, 0, none⟩ = some (.int .u64 a) := fun d os => cell_regrown (cell_of_row _ _ 0 _ 35 (0, 0) g0) d os
    have la1 : ∀ d os, (grow (redrawn wc d) os).cell? ⟨A, 1, none⟩ = some (.int .u64 b) := fun d os => cell_regrown (cell_of_row _ _ 1 _ 35 (0, 0) g0) d os
    have la2 : ∀ d os, (grow (redrawn wc d) os).cell? ⟨A, 2, none⟩ = some (.int .u64 c) := fun d os => cell_regrown (cell_of_row _ _ 2 _ 35 (0, 0) g0) d os
    have la3 : ∀ d os, (grow (redrawn wc d) os).cell? ⟨A, 3, none⟩ = some (.int .u64 d_) := fun d os => cell_regrown (cell_of_row _ _ 3 _ 35 (0, 0) g0) d os
    have lb0 : ∀ d os, (grow (redrawn wc d) os).cell? ⟨A + 1, 0, none⟩ = some (.int .u64 a') := fun d os => cell_regrown (cell_of_row _ _ 0 _ 35 (0, 0) g1) d os
    have lb1 : ∀ d os, (grow (redrawn wc d) os).cell? ⟨A + 1, 1, none⟩ = some (.int .u64 b') := fun d os => cell_regrown (cell_of_row _ _ 1 _ 35 (0, 0) g1) d os
    have lb2 : ∀ d os, (grow (redrawn wc d) os).cell? ⟨A + 1, 2, none⟩ = some (.int .u64 c') := fun d os => cell_regrown (cell_of_row _ _ 2 _ 35 (0, 0) g1) d os
    have lb3 : ∀ d os, (grow (redrawn wc d) os).cell? ⟨A + 1, 3, none⟩ = some (.int .u64 d') := fun d os => cell_regrown (cell_of_row _ _ 3 _ 35 (0, 0) g1) d os
    have lp0 : ∀ d os, (grow (redrawn wc d) os).cell? ⟨p, 0, none⟩ = some (.int .u64 V.a) := fun d os => cell_regrown (cell_of_row _ _ 0 _ 35 (0, 0) hp) d os
    have lp1 : ∀ d os, (grow (redrawn wc d) os).cell? ⟨p, 1, none⟩ = some (.int .u64 V.b) := fun d os => cell_regrown (cell_of_row _ _ 1 _ 35 (0, 0) hp) d os
    have lp2 : ∀ d os, (grow (redrawn wc d) os).cell? ⟨p, 2, none⟩ = some (.int .u64 V.c) := fun d os => cell_regrown (cell_of_row _ _ 2 _ 35 (0, 0) hp) d os
    have lp3 : ∀ d os, (grow (redrawn wc d) os).cell? ⟨p, 3, none⟩ = some (.int .u64 V.d) := fun d os => cell_regrown (cell_of_row _ _ 3 _ 35 (0, 0) hp) d os
    have lq0 : ∀ d os, (grow (redrawn wc d) os).cell? ⟨q, 0, none⟩ = some (.int .u64 U.a) := fun d os => cell_regrown (cell_of_row _ _ 0 _ 35 (0, 0) hq) d os
    have lq1 : ∀ d os, (grow (redrawn wc d) os).cell? ⟨q, 1, none⟩ = some (.int .u64 U.b) := fun d os => cell_regrown (cell_of_row _ _ 1 _ 35 (0, 0) hq) d os
    have lq2 : ∀ d os, (grow (redrawn wc d) os).cell? ⟨q, 2, none⟩ = some (.int .u64 U.c) := fun d os => cell_regrown (cell_of_row _ _ 2 _ 35 (0, 0) hq) d os
    have lq3 : ∀ d os, (grow (redrawn wc d) os).cell? ⟨q, 3, none⟩ = some (.int .u64 U.d) := fun d os => cell_regrown (cell_of_row _ _ 3 _ 35 (0, 0) hq) d os
    clear r1 r2 hD hVU hp hq g0 g1 h0 h1 hVo hUo hfin hb3 hws hs0 hs1 hbel hg
    go_wp2_with fail
    refine wp_region_quiet_below (by kernel_rfl) (by kernel_rfl) ?_
    repeat (go_big_quiet_step (first | (with_reducible exact cA _ _) | (with_reducible exact cV _ _) | (with_reducible exact cU _ _) | (with_reducible exact cR _ _)))
    refine wpQuiet_nil ?_
    intro _ hw'
    obtain ⟨⟨dq, osq⟩, hw''⟩ := hw'
    subst hw''
    have hbq : Below w.heap.size w (grow (redrawn wc dq) osq) := HBL.out.trans ((below_regrown wc dq osq).mono HBL.out.size)
    go_wp2
    go_ret
    exact ⟨rfl, hbq⟩
end Go.Proofs.YthmiomncgkmnoaaDoor
