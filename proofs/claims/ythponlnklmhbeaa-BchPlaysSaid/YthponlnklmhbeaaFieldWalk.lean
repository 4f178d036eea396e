/- The field's functions: what each answers. -/
import Derived.Test.YthponlnklmhbeaaFieldPure
import Derived.Test.YthponlnklmhbeaaProg
import Derived.Test.YthponlnklmhbeaaFoot
import Derived.BigRegion
import Derived.BigQuiet
import Derived.Deep.DeepFit
set_option linter.unusedVariables false
set_option linter.unusedSimpArgs false
namespace Go.Proofs.Ythponlnklmhbeaa
open Go.RowKit Go.Sort F7
theorem cell_in (w : World) (k j : Nat) (cs : Array Value) (t : TypeId) (v : Value) (h : w.heap[k]? = some (.cells cs t (0, 0))) (hv : cs[j]? = some v) : w.cell? ⟨k, j, none⟩ = some v := by
  rw [cell_of_row w k j cs t (0, 0) h]; exact hv
theorem free_in (w : World) (k j : Nat) (cs : Array Value) (t : TypeId) (h : w.heap[k]? = some (.cells cs t (0, 0))) : w.frozen? ⟨k, j, none⟩ = false := frozen_of_row w k j cs t h
/-- n rounds of New. -/
structure Nw (w w' : World) (b i : Nat) (cs : Array Value) : Prop where
  heap : w'.heap[b]? = some (.cells cs 56 (0, 0))
  size : cs.size = 255
  exp : ∀ j, j < i → cs[j]? = some (.int .i64 (ex j))
  log : ∀ j, j < i → cs[127 + ex j]? = some (.int .i64 j)
  below : Below w.heap.size w w'
  base : w.heap.size ≤ b
/-- The tables of a field at b. -/
structure Fd (w : World) (b : Nat) : Prop where
  exp : ∀ j, j < 127 → w.cell? ⟨b, j, none⟩ = some (.int .i64 (ex j))
  log : ∀ x, x < 128 → w.cell? ⟨b, 127 + x, none⟩ = some (.int .i64 (if x = 0 then -1 else lg x))
theorem ex_inj (i j : Nat) (hi : i < 127) (hj : j < 127) (h : ex i = ex j) : i = j := by
  have := congrArg lg h
  rw [lg_ex, lg_ex] at this; omega
theorem set_size {cs : Array Value} {n : Nat} (h : cs.size = n) (i : Nat) (v : Value) : (cs.setIfInBounds i v).size = n := by rw [Array.size_setIfInBounds]; exact h
theorem set_get {cs : Array Value} (i j : Nat) (v : Value) (h : i < cs.size) : (cs.setIfInBounds i v)[j]? = if i = j then some v else cs[j]? := by
  rw [Array.getElem?_setIfInBounds]; split <;> simp_all
theorem Nw.step {w w1 : World} {b i : Nat} {cs : Array Value} (h : Nw w w1 b i cs) (hi : i < 127) :
    Nw w ((w1.setCell ⟨b, i, none⟩ (.int .i64 (ex i))).setCell ⟨b, 127 + ex i, none⟩ (.int .i64 i)).drew b (i + 1) ((cs.setIfInBounds i (.int .i64 (ex i))).setIfInBounds (127 + ex i) (.int .i64 i)) := by
  have hs := h.size
  have hlt := ex_lt i
  refine ⟨?_, set_size (set_size hs _ _) _ _, ?_, ?_, ?_, h.base⟩
  · exact heap_setCell_same _ b _ _ 56 _ (heap_setCell_same _ b _ _ 56 _ h.heap)
  · intro j hj
    rw [set_get _ _ _ (by rw [set_size hs]; omega), if_neg (by omega), set_get _ _ _ (by omega)]
    by_cases e : i = j
    · subst e; rw [if_pos rfl]
    · rw [if_neg e]; exact h.exp j (by omega)
  · intro j hj
    rw [set_get _ _ _ (by rw [set_size hs]; omega)]
    by_cases e : i = j
    · subst e; rw [if_pos rfl]
    · have hne : ex i ≠ ex j := fun he => e (ex_inj i j hi (by omega) he)
      rw [if_neg (by omega), set_get _ _ _ (by omega), if_neg (by omega)]; exact h.log j (by omega)
  · have h1 := below_gb h.below (gb_setCell _ ⟨b, i, none⟩ (.int .i64 (ex i))) h.below.size h.base
    have h2 := below_gb h1 (gb_setCell _ ⟨b, 127 + ex i, none⟩ (.int .i64 i)) h1.size h.base
    exact ⟨h2.os, h2.tape, h2.output, h2.size, h2.block⟩
def zs : Array Value := Array.replicate 255 (.int .i64 0)
theorem zero56 : ∀ w, (zeroValue 56).run Try.prog w = .ok (.agg zs) w := by
  have h : (Try.prog.info? 56).map (fun i => i.zero) = some (some (.agg zs)) := by kernel_rfl
  intro w
  obtain ⟨i, hi, hz⟩ := Option.map_eq_some_iff.1 h
  simp [zeroValue, typeInfo, hi, hz]
set_option maxRecDepth 100000 in
theorem new_is (w : World) : Calls Try.prog 16 #[] w fun e w' => ∃ b, e = .returned (.pointer (some ⟨b, 0, none⟩)) ∧ Fd w' b ∧ w.heap.size ≤ b ∧ Below w.heap.size w w' := by
  have hz := zero56 w
  obtain ⟨b, hbe⟩ : ∃ b, b = w.heap.size := ⟨_, rfl⟩
  have h0 : Nw w (w.alloc (.cells zs 56)) b 0 zs := ⟨by rw [hbe]; exact heap_alloc_new w _, by simp [zs], by intro j hj; omega, by intro j hj; omega, (Below.refl _ _).alloc (Nat.le_refl _) _, by omega⟩
  go_enter Try.func16, Try.ntmps16
  go_wp2
  rw [← hbe]
  clear hz hbe
  generalize w.alloc (.cells zs 56) = W0 at *
  go_loopw [2, 6] (fun x i wr => ∃ k : Nat, k ≤ 127 ∧ i = .int .i64 k ∧ x = .int .i64 (ex k) ∧ ∃ cs, Nw w wr b k cs) (fun _ i _ => 127 - (intOf i).toNat)
  case atStart => exact ⟨0, by omega, rfl, by rw [ex_zero]; rfl, zs, h0⟩
  case round =>
    clear h0
    obtain ⟨k, hk, rfl, rfl, cs, hn⟩ := hrel
    by_cases hlt : k < 127
    · have hx1 := ex_lt k
      have hx2 := ex_pos k
      have hs := hn.size
      obtain ⟨v1, hv1⟩ : ∃ v, cs[k]? = some v := ⟨_, Array.getElem?_eq_getElem (by omega)⟩
      obtain ⟨v2, hv2⟩ : ∃ v, cs[127 + ex k]? = some v := ⟨_, Array.getElem?_eq_getElem (by omega)⟩
      have hc1 := cell_in wr b k cs 56 _ hn.heap hv1
      have hc2 := cell_in wr b (127 + ex k) cs 56 _ hn.heap hv2
      have hf1 := free_in wr b k cs 56 hn.heap
      have hf2 := free_in wr b (127 + ex k) cs 56 hn.heap
      have HS := Lib.hid (hn.step hlt)
      obtain ⟨X, hX⟩ : ∃ X, X = ex k := ⟨_, rfl⟩
      have hnx := ex_succ k
      rw [← hX] at hx1 hx2 hc2 hf2 hnx
      rw [← hX]
      have HX := Lib.hid hX
      have HNX := Lib.hid hnx
      clear hv1 hv2 hX hn hs hnx
      by_cases hd : 128 ≤ 2 * X
      · have hx : bits .xor .i64 ((X : Int) * 2) 137 = ((ex (k + 1) : Nat) : Int) := by
          rw [HNX.out]; unfold dbl; rw [if_pos hd]
          have := xor_i64 (2 * X) 137 (by omega) (by decide)
          rw [← this]; congr 1; omega
        have HXX := Lib.hid hx
        clear hx
        go_wp2
        go_region
        go_wp2
        go_roundw
        case rel => exact ⟨k + 1, by omega, by go_num, by rw [← HXX.out], _, by rw [HX.out]; exact HS.out⟩
        case measure => simp [intOf]; omega
      · have hx : (X : Int) * 2 = ((ex (k + 1) : Nat) : Int) := by
          rw [HNX.out]; unfold dbl; rw [if_neg hd]; omega
        have HXX := Lib.hid hx
        clear hx
        go_wp2
        go_region
        go_wp2
        go_roundw
        case rel => exact ⟨k + 1, by omega, by go_num, by rw [← HXX.out], _, by rw [HX.out]; exact HS.out⟩
        case measure => simp [intOf]; omega
    · obtain rfl : k = 127 := by omega
      have hs := hn.size
      obtain ⟨v2, hv2⟩ : ∃ v, cs[127]? = some v := ⟨_, Array.getElem?_eq_getElem (by omega)⟩
      have hc2 := cell_in wr b 127 cs 56 _ hn.heap hv2
      have hf2 := free_in wr b 127 cs 56 hn.heap
      have HN := Lib.hid hn
      clear hn hs hv2
      go_wp2
      go_ret
      have hn := HN.out
      refine ⟨b, rfl, ?_, hn.base, below_gb hn.below (gb_setCell _ ⟨b, 127, none⟩ _) hn.below.size hn.base⟩
      have hh : (wr.setCell ⟨b, 127, none⟩ (.int .i64 (-1))).heap[b]? = some (.cells (cs.setIfInBounds 127 (.int .i64 (-1))) 56 (0, 0)) := heap_setCell_same _ b _ _ 56 _ hn.heap
      constructor
      · intro j hj
        refine cell_in _ b j _ 56 _ hh ?_
        rw [set_get _ _ _ (by rw [hn.size]; omega), if_neg (by omega)]; exact hn.exp j hj
      · intro x hx
        refine cell_in _ b _ _ 56 _ hh ?_
        rw [set_get _ _ _ (by rw [hn.size]; omega)]
        by_cases h0 : x = 0
        · subst h0; rfl
        · rw [if_neg (by omega), if_neg h0]
          have := hn.log (lg x) (lg_lt x hx h0)
          rw [ex_lg x hx h0] at this; exact this
theorem rest_is (n : Int) (m : Nat) (hm : m = 127 ∨ m = 128) (w : World) : Calls Try.prog 38 #[.int .i64 n, .int .i64 m] w fun e w' => e = .returned (.int .i64 (n % m)) ∧ w' = w := by
  have h1 : Int.tmod (Int.tmod n m + m) m = n % m := by
    rw [Int.tmod_eq_emod_of_nonneg]
    · rw [Int.tmod_eq_emod]
      split <;> rcases hm with rfl | rfl <;> omega
    · rw [Int.tmod_eq_emod]
      split <;> rcases hm with rfl | rfl <;> omega
  have h2 : -128 < Int.tmod n m ∧ Int.tmod n m < 128 := by
    rw [Int.tmod_eq_emod]
    split <;> rcases hm with rfl | rfl <;> omega
  obtain ⟨T, hT⟩ : ∃ T, T = Int.tmod n m := ⟨_, rfl⟩
  rw [← hT] at h1 h2
  have HT := Lib.hid hT
  have H1 := Lib.hid h1
  clear hT h1
  have hm0 : m ≠ 0 := by omega
  go_enter Try.func38, Try.ntmps38
  go_wp2
  go_ret
  refine ⟨?_, rfl⟩
  have hw : wrap64 (T + m) = T + m := by unfold wrap64; rcases hm with rfl | rfl <;> omega
  rw [← HT.out, hw, H1.out]
  rfl
theorem rest127 (n : Int) (w : World) : Calls Try.prog 38 #[.int .i64 n, .int .i64 127] w fun e w' => e = .returned (.int .i64 (n % 127)) ∧ w' = w := rest_is n 127 (.inl rfl) w
theorem rest128 (n : Int) (w : World) : Calls Try.prog 38 #[.int .i64 n, .int .i64 128] w fun e w' => e = .returned (.int .i64 (n % 128)) ∧ w' = w := rest_is n 128 (.inr rfl) w
theorem Fd.below {w w' : World} {b : Nat} (h : Fd w b) (hb : Below w.heap.size w w') : Fd w' b :=
  ⟨fun j hj => (hb.cell (World.block_lt_of_cell? w _ (h.exp j hj))).trans (h.exp j hj), fun x hx => (hb.cell (World.block_lt_of_cell? w _ (h.log x hx))).trans (h.log x hx)⟩
theorem below_drewN (w : World) (n : Nat) : Below w.heap.size w (w.drewN n) := ⟨rfl, rfl, rfl, Nat.le_refl _, fun _ _ => rfl⟩
theorem Fd.drewN {w : World} {b : Nat} (h : Fd w b) (k : Nat) : Fd (w.drewN k) b := h.below (below_drewN w k)
/-- A number's rest by 128, as a plain number. -/
def r7 (n : Int) : Nat := (n % 128).toNat
theorem r7_lt (n : Int) : r7 n < 128 := by unfold r7; omega
/-- What Log answers. -/
def lgI (x : Nat) : Int := if x = 0 then -1 else lg x
def r127 (n : Int) : Nat := (n % 127).toNat
theorem drew2 (w : World) (a b : Nat) : (w.drewN a).drewN b = w.drewN (a + b) := by
  unfold World.drewN; simp [Nat.add_assoc]
set_option maxRecDepth 100000 in
theorem exp_is (b : Nat) (n : Int) (w : World) (h : Fd w b) : Calls Try.prog 20 #[.pointer (some ⟨b, 0, none⟩), .int .i64 n] w fun e w' => e = .returned (.int .i64 (ex (r127 n))) ∧ ∃ k, w' = w.drewN k := by
  obtain ⟨q, hq⟩ : ∃ q, q = r127 n := ⟨_, rfl⟩
  have hq1 : n % 127 = q := by rw [hq]; unfold r127; omega
  have hq2 : q < 127 := by omega
  have hc := h.exp q hq2
  have hr := fun w => rest127 n w
  rw [hq1] at hr
  rw [← hq]
  clear hq hq1 h
  go_enter Try.func20, Try.ntmps20
  go_wp2
  go_quiet ((exact Calls.quiet_of_same (hr _)))
  go_wp2
  go_ret
  exact ⟨rfl, _, rfl⟩
set_option maxRecDepth 100000 in
theorem log_is (b : Nat) (n : Int) (w : World) (h : Fd w b) : Calls Try.prog 21 #[.pointer (some ⟨b, 0, none⟩), .int .i64 n] w fun e w' => e = .returned (.int .i64 (lgI (r7 n))) ∧ ∃ k, w' = w.drewN k := by
  obtain ⟨q, hq⟩ : ∃ q, q = r7 n := ⟨_, rfl⟩
  have hq1 : n % 128 = q := by rw [hq]; unfold r7; omega
  have hq2 : q < 128 := by omega
  have hc := h.log q hq2
  change w.cell? _ = some (.int .i64 (lgI q)) at hc
  have hr := fun w => rest128 n w
  rw [hq1] at hr
  rw [← hq]
  clear hq hq1 h
  go_enter Try.func21, Try.ntmps21
  go_wp2
  go_quiet ((exact Calls.quiet_of_same (hr _)))
  go_wp2
  go_ret
  exact ⟨rfl, _, rfl⟩
theorem r127_nat (x : Nat) : ex (r127 (x : Int)) = ex x := by
  unfold r127; apply ex_cong; omega
theorem lgI_zero : lgI 0 = -1 := rfl
theorem lgI_pos {x : Nat} (h : x ≠ 0) : lgI x = lg x := if_neg h
set_option maxRecDepth 100000 in
theorem mul_is (b : Nat) (n m : Int) (w : World) (h : Fd w b) : Calls Try.prog 17 #[.pointer (some ⟨b, 0, none⟩), .int .i64 n, .int .i64 m] w fun e w' => e = .returned (.int .i64 (mul (r7 n) (r7 m))) ∧ ∃ k, w' = w.drewN k := by
  have hl1 := fun w h => log_is b n w h
  have hl2 := fun w h => log_is b m w h
  have hx := r7_lt n
  have hy := r7_lt m
  obtain ⟨x, hxe⟩ : ∃ x, x = r7 n := ⟨_, rfl⟩
  obtain ⟨y, hye⟩ : ∃ y, y = r7 m := ⟨_, rfl⟩
  rw [← hxe] at hl1 hx
  rw [← hye] at hl2 hy
  rw [← hxe, ← hye]
  have HF := Lib.hid h
  clear hxe hye h
  by_cases hx0 : x = 0
  · subst hx0
    rw [zero_mul]
    rw [lgI_zero] at hl1
    go_enter Try.func17, Try.ntmps17
    go_wp2_with (first | (go_at_call 21; (with_reducible refine (hl1 _ HF.out).mono ?_); rintro e w1 ⟨rfl, k1, rfl⟩; have hF1 := HF.out.drewN k1) | (go_at_call 21; (with_reducible refine (hl2 _ hF1).mono ?_); rintro e w2 ⟨rfl, k2, rfl⟩))
    go_ret
    exact ⟨rfl, _, rfl⟩
  · by_cases hy0 : y = 0
    · subst hy0
      rw [mul_zero]
      rw [lgI_zero] at hl2
      rw [lgI_pos hx0] at hl1
      have hlx : ¬ ((lg x : Nat) : Int) < 0 := by omega
      go_enter Try.func17, Try.ntmps17
      go_wp2_with (first | (go_at_call 21; (with_reducible refine (hl1 _ HF.out).mono ?_); rintro e w1 ⟨rfl, k1, rfl⟩; have hF1 := HF.out.drewN k1) | (go_at_call 21; (with_reducible refine (hl2 _ hF1).mono ?_); rintro e w2 ⟨rfl, k2, rfl⟩))
      go_ret
      exact ⟨rfl, _, rfl⟩
    · rw [lgI_pos hx0] at hl1
      rw [lgI_pos hy0] at hl2
      have hm : mul x y = ex (lg x + lg y) := by unfold mul; rw [if_neg (by omega)]
      rw [hm]
      have h1 := lg_lt x hx hx0
      have h2 := lg_lt y hy hy0
      obtain ⟨s, hs⟩ : ∃ s, s = lg x := ⟨_, rfl⟩
      obtain ⟨t, ht⟩ : ∃ t, t = lg y := ⟨_, rfl⟩
      rw [← hs] at hl1 h1
      rw [← ht] at hl2 h2
      rw [← hs, ← ht]
      clear hs ht hm hx hy hx0 hy0
      have hex := fun w (h : Fd w b) => exp_is b ((s : Int) + t) w h
      rw [show (s : Int) + t = ((s + t : Nat) : Int) by omega, r127_nat, show ((s + t : Nat) : Int) = (s : Int) + t by omega] at hex
      go_enter Try.func17, Try.ntmps17
      go_wp2_with (first | (go_at_call 21; (with_reducible refine (hl1 _ HF.out).mono ?_); rintro e w1 ⟨rfl, k1, rfl⟩; have hF1 := HF.out.drewN k1) | (go_at_call 21; (with_reducible refine (hl2 _ hF1).mono ?_); rintro e w2 ⟨rfl, k2, rfl⟩; have hF2 := HF.out.drewN (k1 + k2)) | (go_at_call 20; (with_reducible refine (hex _ hF2).mono ?_); rintro e w3 ⟨rfl, k3, rfl⟩))
      go_ret
      exact ⟨rfl, _, rfl⟩
set_option maxRecDepth 100000 in
theorem inv_is (b : Nat) (n : Int) (w : World) (h : Fd w b) : Calls Try.prog 18 #[.pointer (some ⟨b, 0, none⟩), .int .i64 n] w fun e w' => e = .returned (.int .i64 (inv (r7 n))) ∧ ∃ k, w' = w.drewN k := by
  have hl1 := fun w h => log_is b n w h
  have hx := r7_lt n
  obtain ⟨x, hxe⟩ : ∃ x, x = r7 n := ⟨_, rfl⟩
  rw [← hxe] at hl1 hx
  rw [← hxe]
  have HF := Lib.hid h
  clear hxe h
  by_cases hx0 : x = 0
  · subst hx0
    rw [lgI_zero] at hl1
    go_enter Try.func18, Try.ntmps18
    go_wp2_with (first | (go_at_call 21; (with_reducible refine (hl1 _ HF.out).mono ?_); rintro e w1 ⟨rfl, k1, rfl⟩))
    go_ret
    exact ⟨rfl, _, rfl⟩
  · rw [lgI_pos hx0] at hl1
    have hm : inv x = ex (127 - lg x) := by unfold inv; rw [if_neg hx0]
    rw [hm]
    have h1 := lg_lt x hx hx0
    obtain ⟨s, hs⟩ : ∃ s, s = lg x := ⟨_, rfl⟩
    rw [← hs] at hl1 h1
    rw [← hs]
    clear hs hm hx hx0
    have hex := fun w (h : Fd w b) => exp_is b (-(s : Int)) w h
    rw [show ex (r127 (-(s : Int))) = ex (127 - s) by unfold r127; apply ex_cong; omega] at hex
    go_enter Try.func18, Try.ntmps18
    go_wp2_with (first | (go_at_call 21; (with_reducible refine (hl1 _ HF.out).mono ?_); rintro e w1 ⟨rfl, k1, rfl⟩; have hF1 := HF.out.drewN k1) | (go_at_call 20; (with_reducible refine (hex _ hF1).mono ?_); rintro e w3 ⟨rfl, k3, rfl⟩))
    go_ret
    exact ⟨rfl, _, rfl⟩
/-- A power of any number's rest by any exponent. -/
def powI (x : Nat) (n : Int) : Nat := if n = 0 then 1 else if x = 0 then 0 else ex (lg x * r127 n)
set_option maxRecDepth 100000 in
theorem pow_is (b : Nat) (n k : Int) (w : World) (h : Fd w b) : Calls Try.prog 22 #[.pointer (some ⟨b, 0, none⟩), .int .i64 n, .int .i64 k] w fun e w' => e = .returned (.int .i64 (powI (r7 n) k)) ∧ ∃ k, w' = w.drewN k := by
  have hl1 := fun w h => log_is b n w h
  have hx := r7_lt n
  obtain ⟨x, hxe⟩ : ∃ x, x = r7 n := ⟨_, rfl⟩
  rw [← hxe] at hl1 hx
  rw [← hxe]
  have HF := Lib.hid h
  clear hxe h
  by_cases hk0 : k = 0
  · subst hk0
    go_enter Try.func22, Try.ntmps22
    go_wp2_with (first | (go_at_call 21; (with_reducible refine (hl1 _ HF.out).mono ?_); rintro e w1 ⟨rfl, k1, rfl⟩))
    go_ret
    exact ⟨rfl, _, rfl⟩
  · have hkn : (k == 0) = false := by simp [hk0]
    by_cases hx0 : x = 0
    · subst hx0
      rw [lgI_zero] at hl1
      have hp : powI 0 k = 0 := by unfold powI; rw [if_neg hk0, if_pos rfl]
      rw [hp]
      go_enter Try.func22, Try.ntmps22
      go_wp2_with (first | (go_at_call 21; (with_reducible refine (hl1 _ HF.out).mono ?_); rintro e w1 ⟨rfl, k1, rfl⟩))
      go_ret
      exact ⟨rfl, _, rfl⟩
    · rw [lgI_pos hx0] at hl1
      have hp : powI x k = ex (lg x * r127 k) := by unfold powI; rw [if_neg hk0, if_neg hx0]
      rw [hp]
      have h1 := lg_lt x hx hx0
      have hr := fun w => rest127 k w
      obtain ⟨q, hq⟩ : ∃ q, q = r127 k := ⟨_, rfl⟩
      have hq1 : k % 127 = q := by rw [hq]; unfold r127; omega
      have hq2 : q < 127 := by omega
      rw [hq1] at hr
      obtain ⟨s, hs⟩ : ∃ s, s = lg x := ⟨_, rfl⟩
      rw [← hs] at hl1 h1
      rw [← hs, ← hq]
      clear hs hp hx hx0 hq hq1
      obtain ⟨P, hP⟩ : ∃ P : Nat, P = s * q := ⟨_, rfl⟩
      have hP1 : (s : Int) * (q : Int) = (P : Int) := by rw [hP, Int.natCast_mul]
      have hP2 : P ≤ 126 * 126 := by rw [hP]; exact Nat.mul_le_mul (by omega) (by omega)
      rw [← hP]
      clear hP
      have hex := fun w (h : Fd w b) => exp_is b (P : Int) w h
      rw [r127_nat] at hex
      go_enter Try.func22, Try.ntmps22
      go_wp2_with (first | (go_at_call 21; (with_reducible refine (hl1 _ HF.out).mono ?_); rintro e w1 ⟨rfl, k1, rfl⟩; have hF1 := HF.out.drewN k1) | (go_at_call 38; (with_reducible refine (hr _).mono ?_); rintro e w2 ⟨rfl, rfl⟩) | (go_at_call 20; (with_reducible refine (hex _ hF1).mono ?_); rintro e w3 ⟨rfl, k3, rfl⟩))
      go_ret
      exact ⟨rfl, _, rfl⟩
end Go.Proofs.Ythponlnklmhbeaa
