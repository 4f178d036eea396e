/- A round: the walk of (*sip.state).round. -/
import Derived.Test.YthmiomncgkmnoaaDoorSipTurn
set_option linter.unusedVariables false
set_option linter.unusedSimpArgs false
namespace Go.Proofs.YthmiomncgkmnoaaDoor
open Go.RowKit Go.Sort Sip
/-- Four words, as cells. -/
def cells4 (v : Four) : Array Value := #[.int .u64 v.a, .int .u64 v.b, .int .u64 v.c, .int .u64 v.d]
/-- Block b holds the four words v. -/
def St (w : World) (b : Nat) (v : Four) : Prop := w.heap[b]? = some (.cells (cells4 v) 58 (0, 0))
theorem St.drewN {w : World} {b : Nat} {v : Four} (h : St w b v) (k : Nat) : St (w.drewN k) b v := h
theorem St.cell {w : World} {b : Nat} {v : Four} (h : St w b v) (i : Nat) : w.cell? ⟨b, i, none⟩ = (cells4 v)[i]? := cell_of_row w b i _ 58 (0, 0) h
theorem St.free {w : World} {b : Nat} {v : Four} (h : St w b v) (i : Nat) : w.frozen? ⟨b, i, none⟩ = false := frozen_of_row w b i _ 58 h
theorem St.set {w : World} {b : Nat} {v : Four} (h : St w b v) (i : Nat) (x : Value) (u : Four) (hu : (cells4 v).setIfInBounds i x = cells4 u) : St (w.setCell ⟨b, i, none⟩ x) b u := by
  have := heap_setCell_same w b i _ 58 x h
  rw [hu] at this
  exact this
theorem St.keep {w w' : World} {b : Nat} {v : Four} {F : List Nat} (h : St w b v) (hk : Keep w w' F) (hb : b ∉ F) : St w' b v := by
  unfold St
  rw [hk.block b (Array.getElem?_eq_some_iff.1 h).1 hb]; exact h
theorem Keep.drewN (w : World) (k : Nat) (F : List Nat) : Keep w (w.drewN k) F := ⟨rfl, rfl, rfl, Nat.le_refl _, fun _ _ _ => rfl⟩
theorem Keep.set2 (w : World) (b i j k : Nat) (x y : Value) : Keep w (((w.setCell ⟨b, i, none⟩ x).setCell ⟨b, j, none⟩ y).drewN k) [b] :=
  ((Keep.setCell w ⟨b, i, none⟩ x [b] (by simp)).trans (Keep.setCell _ ⟨b, j, none⟩ y [b] (by simp))).trans (Keep.drewN _ k _)
theorem mix01 {w : World} {b : Nat} {v : Four} (n : Nat) (hn : n < 64) (h : St w b v) (hv : v.Ok) : Calls Tryd.prog 48 #[.pointer (some ⟨b, 0, none⟩), .int .i64 0, .int .i64 1, .int .i64 n] w fun e w' => e = .returned (.tuple #[]) ∧ St w' b ⟨add64 v.a v.b, rot n v.b ^^^ add64 v.a v.b, v.c, v.d⟩ ∧ Keep w w' [b] :=
  (mix_is w b 0 1 n v.a v.b (by decide) (by decide) (by decide) hn hv.1 hv.2.1 (h.cell 0) (h.free 0) (h.cell 1) (h.free 1)).mono fun _ _ ⟨he, k, hk⟩ => by
    subst hk
    have s1 := h.set 0 (.int .u64 (add64 v.a v.b : Nat)) ⟨add64 v.a v.b, v.b, v.c, v.d⟩ rfl
    have s2 := s1.set 1 (.int .u64 (rot n v.b ^^^ add64 v.a v.b : Nat)) ⟨add64 v.a v.b, rot n v.b ^^^ add64 v.a v.b, v.c, v.d⟩ rfl
    exact ⟨he, s2.drewN k, Keep.set2 ..⟩
theorem mix23 {w : World} {b : Nat} {v : Four} (n : Nat) (hn : n < 64) (h : St w b v) (hv : v.Ok) : Calls Tryd.prog 48 #[.pointer (some ⟨b, 0, none⟩), .int .i64 2, .int .i64 3, .int .i64 n] w fun e w' => e = .returned (.tuple #[]) ∧ St w' b ⟨v.a, v.b, add64 v.c v.d, rot n v.d ^^^ add64 v.c v.d⟩ ∧ Keep w w' [b] :=
  (mix_is w b 2 3 n v.c v.d (by decide) (by decide) (by decide) hn hv.2.2.1 hv.2.2.2 (h.cell 2) (h.free 2) (h.cell 3) (h.free 3)).mono fun _ _ ⟨he, k, hk⟩ => by
    subst hk
    have s1 := h.set 2 (.int .u64 (add64 v.c v.d : Nat)) ⟨v.a, v.b, add64 v.c v.d, v.d⟩ rfl
    have s2 := s1.set 3 (.int .u64 (rot n v.d ^^^ add64 v.c v.d : Nat)) ⟨v.a, v.b, add64 v.c v.d, rot n v.d ^^^ add64 v.c v.d⟩ rfl
    exact ⟨he, s2.drewN k, Keep.set2 ..⟩
theorem mix03 {w : World} {b : Nat} {v : Four} (n : Nat) (hn : n < 64) (h : St w b v) (hv : v.Ok) : Calls Tryd.prog 48 #[.pointer (some ⟨b, 0, none⟩), .int .i64 0, .int .i64 3, .int .i64 n] w fun e w' => e = .returned (.tuple #[]) ∧ St w' b ⟨add64 v.a v.d, v.b, v.c, rot n v.d ^^^ add64 v.a v.d⟩ ∧ Keep w w' [b] :=
  (mix_is w b 0 3 n v.a v.d (by decide) (by decide) (by decide) hn hv.1 hv.2.2.2 (h.cell 0) (h.free 0) (h.cell 3) (h.free 3)).mono fun _ _ ⟨he, k, hk⟩ => by
    subst hk
    have s1 := h.set 0 (.int .u64 (add64 v.a v.d : Nat)) ⟨add64 v.a v.d, v.b, v.c, v.d⟩ rfl
    have s2 := s1.set 3 (.int .u64 (rot n v.d ^^^ add64 v.a v.d : Nat)) ⟨add64 v.a v.d, v.b, v.c, rot n v.d ^^^ add64 v.a v.d⟩ rfl
    exact ⟨he, s2.drewN k, Keep.set2 ..⟩
theorem mix21 {w : World} {b : Nat} {v : Four} (n : Nat) (hn : n < 64) (h : St w b v) (hv : v.Ok) : Calls Tryd.prog 48 #[.pointer (some ⟨b, 0, none⟩), .int .i64 2, .int .i64 1, .int .i64 n] w fun e w' => e = .returned (.tuple #[]) ∧ St w' b ⟨v.a, rot n v.b ^^^ add64 v.c v.b, add64 v.c v.b, v.d⟩ ∧ Keep w w' [b] :=
  (mix_is w b 2 1 n v.c v.b (by decide) (by decide) (by decide) hn hv.2.2.1 hv.2.1 (h.cell 2) (h.free 2) (h.cell 1) (h.free 1)).mono fun _ _ ⟨he, k, hk⟩ => by
    subst hk
    have s1 := h.set 2 (.int .u64 (add64 v.c v.b : Nat)) ⟨v.a, v.b, add64 v.c v.b, v.d⟩ rfl
    have s2 := s1.set 1 (.int .u64 (rot n v.b ^^^ add64 v.c v.b : Nat)) ⟨v.a, rot n v.b ^^^ add64 v.c v.b, add64 v.c v.b, v.d⟩ rfl
    exact ⟨he, s2.drewN k, Keep.set2 ..⟩
theorem mixed_lt (n a b : Nat) (hb : b < 2 ^ 64) : rot n b ^^^ add64 a b < 2 ^ 64 := Sip.xor_lt _ _ (rot_lt n b hb) (add_lt a b)
def r1 (v : Four) : Four := ⟨add64 v.a v.b, rot 13 v.b ^^^ add64 v.a v.b, v.c, v.d⟩
def r2 (v : Four) : Four := ⟨rot 32 v.a, v.b, v.c, v.d⟩
def r3 (v : Four) : Four := ⟨v.a, v.b, add64 v.c v.d, rot 16 v.d ^^^ add64 v.c v.d⟩
def r4 (v : Four) : Four := ⟨add64 v.a v.d, v.b, v.c, rot 21 v.d ^^^ add64 v.a v.d⟩
def r5 (v : Four) : Four := ⟨v.a, rot 17 v.b ^^^ add64 v.c v.b, add64 v.c v.b, v.d⟩
def r6 (v : Four) : Four := ⟨v.a, v.b, rot 32 v.c, v.d⟩
theorem round_parts (v : Four) : r6 (r5 (r4 (r3 (r2 (r1 v))))) = round v := rfl
theorem ok1 {v : Four} (h : v.Ok) : (r1 v).Ok := ⟨add_lt _ _, mixed_lt _ _ _ h.2.1, h.2.2.1, h.2.2.2⟩
theorem ok2 {v : Four} (h : v.Ok) : (r2 v).Ok := ⟨rot_lt _ _ h.1, h.2.1, h.2.2.1, h.2.2.2⟩
theorem ok3 {v : Four} (h : v.Ok) : (r3 v).Ok := ⟨h.1, h.2.1, add_lt _ _, mixed_lt _ _ _ h.2.2.2⟩
theorem ok4 {v : Four} (h : v.Ok) : (r4 v).Ok := ⟨add_lt _ _, h.2.1, h.2.2.1, mixed_lt _ _ _ h.2.2.2⟩
theorem ok5 {v : Four} (h : v.Ok) : (r5 v).Ok := ⟨h.1, mixed_lt _ _ _ h.2.1, add_lt _ _, h.2.2.2⟩
theorem ok6 {v : Four} (h : v.Ok) : (r6 v).Ok := ⟨h.1, h.2.1, rot_lt _ _ h.2.2.1, h.2.2.2⟩
theorem round_ok {v : Four} (h : v.Ok) : (round v).Ok := ok6 (ok5 (ok4 (ok3 (ok2 (ok1 h)))))
theorem m01 {w : World} {b : Nat} {v : Four} (h : St w b v) (hv : v.Ok) : Calls Tryd.prog 48 #[.pointer (some ⟨b, 0, none⟩), .int .i64 0, .int .i64 1, .int .i64 13] w fun e w' => e = .returned (.tuple #[]) ∧ St w' b (r1 v) ∧ Keep w w' [b] := mix01 13 (by decide) h hv
theorem turn_l01 (x : Nat) (hx : x < 2 ^ 64) (w : World) : Calls Tryd.prog 20 #[.int .u64 x, .int .i64 13] w fun e w' => e = .returned (.int .u64 (rot 13 x)) ∧ ∃ k, w' = w.drewN k := turn_lit x 13 (by decide) hx w
theorem m23 {w : World} {b : Nat} {v : Four} (h : St w b v) (hv : v.Ok) : Calls Tryd.prog 48 #[.pointer (some ⟨b, 0, none⟩), .int .i64 2, .int .i64 3, .int .i64 16] w fun e w' => e = .returned (.tuple #[]) ∧ St w' b (r3 v) ∧ Keep w w' [b] := mix23 16 (by decide) h hv
theorem turn_l23 (x : Nat) (hx : x < 2 ^ 64) (w : World) : Calls Tryd.prog 20 #[.int .u64 x, .int .i64 16] w fun e w' => e = .returned (.int .u64 (rot 16 x)) ∧ ∃ k, w' = w.drewN k := turn_lit x 16 (by decide) hx w
theorem m03 {w : World} {b : Nat} {v : Four} (h : St w b v) (hv : v.Ok) : Calls Tryd.prog 48 #[.pointer (some ⟨b, 0, none⟩), .int .i64 0, .int .i64 3, .int .i64 21] w fun e w' => e = .returned (.tuple #[]) ∧ St w' b (r4 v) ∧ Keep w w' [b] := mix03 21 (by decide) h hv
theorem turn_l03 (x : Nat) (hx : x < 2 ^ 64) (w : World) : Calls Tryd.prog 20 #[.int .u64 x, .int .i64 21] w fun e w' => e = .returned (.int .u64 (rot 21 x)) ∧ ∃ k, w' = w.drewN k := turn_lit x 21 (by decide) hx w
theorem m21 {w : World} {b : Nat} {v : Four} (h : St w b v) (hv : v.Ok) : Calls Tryd.prog 48 #[.pointer (some ⟨b, 0, none⟩), .int .i64 2, .int .i64 1, .int .i64 17] w fun e w' => e = .returned (.tuple #[]) ∧ St w' b (r5 v) ∧ Keep w w' [b] := mix21 17 (by decide) h hv
theorem turn_l21 (x : Nat) (hx : x < 2 ^ 64) (w : World) : Calls Tryd.prog 20 #[.int .u64 x, .int .i64 17] w fun e w' => e = .returned (.int .u64 (rot 17 x)) ∧ ∃ k, w' = w.drewN k := turn_lit x 17 (by decide) hx w
theorem turn_32 (x : Nat) (hx : x < 2 ^ 64) (w : World) : Calls Tryd.prog 20 #[.int .u64 x, .int .i64 32] w fun e w' => e = .returned (.int .u64 (rot 32 x)) ∧ ∃ k, w' = w.drewN k := turn_lit x 32 (by decide) hx w
set_option maxRecDepth 100000 in
theorem round_is (w : World) (b : Nat) (v : Four) (hv : v.Ok) (h : St w b v) : Calls Tryd.prog 43 #[.pointer (some ⟨b, 0, none⟩)] w fun e w' => e = .returned (.tuple #[]) ∧ St w' b (round v) ∧ Keep w w' [b] := by
  have HS := Lib.hid h
  have HV := Lib.hid hv
  clear h hv
  go_enter Tryd.func43, Tryd.ntmps43
  go_wp2_with ((go_at_call 48; (with_reducible refine (m01 HS.out HV.out).mono ?_); rintro e w1 ⟨rfl, h1, k1⟩))
  have c1 : w1.cell? ⟨b, 0, none⟩ = some (.int .u64 (add64 v.a v.b : Nat)) := h1.cell 0
  have f1 : w1.frozen? ⟨b, 0, none⟩ = false := h1.free 0
  have ht := fun w => turn_32 (add64 v.a v.b) (add_lt _ _) w
  have H1 := Lib.hid h1
  have K1 := Lib.hid k1
  clear h1 k1
  refine wp_region_quiet_tail 8 (by kernel_rfl) (by kernel_rfl) ?_
  simp only [List.take_succ_cons, List.take_zero, List.drop_succ_cons, List.drop_zero]
  repeat (go_big_quiet_step ((exact quiet_of (ht _))))
  refine wpQuiet_nil ?_
  intro _ hw'
  obtain ⟨nq, hw''⟩ := hw'
  subst hw''
  have h2 : St ((w1.drewN nq).setCell ⟨b, 0, none⟩ (.int .u64 (rot 32 (add64 v.a v.b) : Nat))) b (r2 (r1 v)) := (H1.out.drewN nq).set 0 _ _ rfl
  have k2 : Keep w ((w1.drewN nq).setCell ⟨b, 0, none⟩ (.int .u64 (rot 32 (add64 v.a v.b) : Nat))) [b] := (K1.out.trans (Keep.drewN _ _ _)).trans (Keep.setCell _ ⟨b, 0, none⟩ _ [b] (by simp))
  have H2 := Lib.hid h2
  have K2 := Lib.hid k2
  clear h2 k2
  go_wp2_with fail
  generalize (w1.drewN nq).setCell ⟨b, 0, none⟩ (.int .u64 (rot 32 (add64 v.a v.b) : Nat)) = W2 at *
  clear c1 f1 ht H1 K1
  (with_reducible refine (m23 H2.out (ok2 (ok1 HV.out))).mono ?_); rintro e w3 ⟨rfl, h3, k3⟩
  have H3 := Lib.hid h3
  have K3 := Lib.hid (K2.out.trans k3)
  clear h3 k3
  go_wp2_with fail
  (with_reducible refine (m03 H3.out (ok3 (ok2 (ok1 HV.out)))).mono ?_); rintro e w4 ⟨rfl, h4, k4⟩
  have H4 := Lib.hid h4
  have K4 := Lib.hid (K3.out.trans k4)
  clear h4 k4
  go_wp2_with fail
  (with_reducible refine (m21 H4.out (ok4 (ok3 (ok2 (ok1 HV.out))))).mono ?_); rintro e w5 ⟨rfl, h5, k5⟩
  have H5 := Lib.hid h5
  have K5 := Lib.hid (K4.out.trans k5)
  clear h5 k5
  obtain ⟨V, hV⟩ : ∃ V, V = r5 (r4 (r3 (r2 (r1 v)))) := ⟨_, rfl⟩
  have hok : V.Ok := by rw [hV]; exact ok5 (ok4 (ok3 (ok2 (ok1 HV.out))))
  have hR : round v = r6 V := by rw [hV, round_parts]
  rw [← hV] at H5
  have HR := Lib.hid hR
  clear hV hR H2 K2 H3 K3 H4 K4
  have c1 : w5.cell? ⟨b, 2, none⟩ = some (.int .u64 (V.c : Nat)) := H5.out.cell 2
  have f1 : w5.frozen? ⟨b, 2, none⟩ = false := H5.out.free 2
  have ht := fun w => turn_32 V.c hok.2.2.1 w
  clear hok
  go_wp2_with fail
  refine wp_region_quiet_tail 8 (by kernel_rfl) (by kernel_rfl) ?_
  simp only [List.take_succ_cons, List.take_zero, List.drop_succ_cons, List.drop_zero]
  repeat (go_big_quiet_step ((exact quiet_of (ht _))))
  refine wpQuiet_nil ?_
  intro _ hw'
  obtain ⟨nq, hw''⟩ := hw'
  subst hw''
  go_wp2
  go_end0
  rw [HR.out]
  exact ⟨rfl, (H5.out.drewN nq).set 2 _ _ rfl, (K5.out.trans (Keep.drewN _ _ _)).trans (Keep.setCell _ ⟨b, 2, none⟩ _ [b] (by simp))⟩
end Go.Proofs.YthmiomncgkmnoaaDoor
