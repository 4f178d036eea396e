/- The document's generator: its walk. -/
import Derived.Test.YthponlnklmhbeaaBchRefTimes
set_option linter.unusedVariables false
set_option linter.unusedSimpArgs false
namespace Go.Proofs.Ythponlnklmhbeaa
open Go.RowKit Go.Sort F7
/-- 128 bits as a value. -/
def metV (f : Nat → Bool) : Array Value := ((List.range 128).map fun i => Value.bool (f i)).toArray
theorem metV_get (f : Nat → Bool) (i : Nat) (hi : i < 128) : (metV f)[i]? = some (.bool (f i)) := by simp [metV, hi]
theorem metV_set (f : Nat → Bool) (i : Nat) (b : Bool) : (metV f).setIfInBounds i (.bool b) = metV (fun m => if m = i then b else f m) := by
  unfold metV
  rw [List.setIfInBounds_toArray]
  congr 1
  apply List.ext_getElem
  · simp
  · intro j h1 h2
    simp only [List.getElem_set, List.getElem_map, List.getElem_range]
    by_cases e : i = j
    · subst e; rw [if_pos rfl, if_pos rfl]
    · rw [if_neg e, if_neg (fun h => e h.symm)]
theorem zero32 : ∀ w, (zeroValue 32).run Try.prog w = .ok (.agg (metV fun _ => false)) w := by
  have h : (Try.prog.info? 32).map (fun i => i.zero) = some (some (.agg (metV fun _ => false))) := by kernel_rfl
  intro w
  obtain ⟨i, hi, hz⟩ := Option.map_eq_some_iff.1 h
  simp [zeroValue, typeInfo, hi, hz]
def Mt (w : World) (b : Nat) (L : List Nat) : Prop := w.heap[b]? = some (.cells (metV fun m => L.contains m) 32 (0, 0))
theorem Mt.cell {w : World} {b : Nat} {L : List Nat} (h : Mt w b L) (i : Nat) (hi : i < 128) : w.cell? ⟨b, i, none⟩ = some (.bool (L.contains i)) := (cell_of_row w b i _ 32 (0, 0) h).trans (metV_get _ i hi)
theorem Mt.free {w : World} {b : Nat} {L : List Nat} (h : Mt w b L) (i : Nat) : w.frozen? ⟨b, i, none⟩ = false := frozen_of_row w b i _ 32 h
theorem Mt.lt {w : World} {b : Nat} {L : List Nat} (h : Mt w b L) : b < w.heap.size := (Array.getElem?_eq_some_iff.1 h).1
theorem Mt.below {w w' : World} {b : Nat} {L : List Nat} (h : Mt w b L) (hb : Below w.heap.size w w') : Mt w' b L := (hb.block b h.lt).trans h
theorem Mt.set {w : World} {b : Nat} {L : List Nat} (h : Mt w b L) (i : Nat) : Mt (w.setCell ⟨b, i, none⟩ (.bool true)) b (i :: L) := by
  have := heap_setCell_same w b i _ 32 (.bool true) h
  rw [metV_set] at this
  rw [Mt, this]
  congr 3
  funext m
  by_cases e : m = i
  · subst e; simp
  · have e1 : (m == i) = false := by rw [beq_eq_false_iff_ne]; exact e
    rw [if_neg e, List.contains_cons, e1, Bool.false_or]
/-- What the rounds keep: the elements met at b, the product at g. -/
structure Gn (w0 w : World) (b g : Nat) (L : List Nat) : Prop where
  met : Mt w b L
  row : Row w g .i64 (casts (rpr L))
  below : Below w0.heap.size w0 w
  new : w0.heap.size ≤ b
  new' : w0.heap.size ≤ g
  ne : g ≠ b
theorem Mt.same {w : World} {b : Nat} {L L' : List Nat} (h : Mt w b L) (he : ∀ m, L.contains m = L'.contains m) : Mt w b L' := by
  have : (fun m => L.contains m) = fun m => L'.contains m := funext he
  unfold Mt at h ⊢
  rw [← this]; exact h
theorem Gn.old {w0 w : World} {b g a : Nat} {L : List Nat} (h : Gn w0 w b g L) (ha : L.contains a = true) : Gn w0 w b g (a :: L) := by
  refine ⟨h.met.same fun m => ?_, by rw [rpr, if_pos ha]; exact h.row, h.below, h.new, h.new', h.ne⟩
  rw [List.contains_cons]
  by_cases e : m = a
  · subst e; rw [ha]; simp
  · have e1 : (m == a) = false := by rw [beq_eq_false_iff_ne]; exact e
    rw [e1, Bool.false_or]
theorem Gn.fresh {w0 w1 w2 : World} {b g g' a : Nat} {L : List Nat} (h : Gn w0 w1 b g L) (ha : L.contains a = false) (hr : Row w2 g' .i64 (casts (times (rpr L) a)))
    (hb : Below (w1.setCell ⟨b, a, none⟩ (.bool true)).heap.size (w1.setCell ⟨b, a, none⟩ (.bool true)) w2) (hg : (w1.setCell ⟨b, a, none⟩ (.bool true)).heap.size ≤ g') : Gn w0 w2 b g' (a :: L) := by
  have hs : (w1.setCell ⟨b, a, none⟩ (.bool true)).heap.size = w1.heap.size := World.size_setCell _ _ _
  have hbl : Below w0.heap.size w0 (w1.setCell ⟨b, a, none⟩ (.bool true)) := below_gb h.below (gb_setCell _ ⟨b, a, none⟩ _) h.below.size h.new
  have hl := h.met.lt
  exact ⟨(h.met.set a).below hb, by rw [rpr, if_neg (by rw [ha]; decide)]; exact hr, hbl.trans (hb.mono hbl.size), h.new, by have := h.below.size; omega, by omega⟩
set_option maxRecDepth 100000 in
set_option maxHeartbeats 3200000 in
theorem refGenerator_is (w : World) : Calls Try.prog 30 #[] w fun e w' => ∃ g cap, e = .returned (.slice (some ⟨g, 0, none⟩) 64 cap) ∧ Row w' g .i64 (casts GB) ∧ Below w.heap.size w w' ∧ w.heap.size ≤ g := by
  have hz := zero32
  have HPOW : Hid (∀ (j : Nat) w, j ≤ 127 → Calls Try.prog 26 #[.int .i64 2, .int .i64 j] w fun e w' => e = .returned (.int .i64 (ex j : Nat)) ∧ w' = w) := fun j w hj => by
    have := refPow_is 2 j (by omega) w
    rw [show r7 2 = 2 by decide, pow_two] at this
    exact this
  have HMUL : Hid (∀ c w, c < 128 → Calls Try.prog 23 #[.int .i64 (c : Nat), .int .i64 (c : Nat)] w fun e w' => e = .returned (.int .i64 (mul c c : Nat)) ∧ w' = w) := fun c w hc => by
    have := refMul_is c c w
    rw [r7_natR hc] at this
    exact this
  go_enter Try.func30, Try.ntmps30
  go_upto_region 3 with (fail)
  have hS0 : Hid (Gn w ((w.alloc (.cells (metV fun _ => false) 32)).alloc (.cells #[.int .i64 1] 3)) w.heap.size (w.heap.size + 1) (pre 0)) := by
    have h1 : Mt (w.alloc (.cells (metV fun _ => false) 32)) w.heap.size [] := heap_alloc_new w _
    have hr := row_one (w.alloc (.cells (metV fun _ => false) 32))
    rw [World.size_alloc] at hr
    exact ⟨h1.below ((Below.refl _ _).alloc (Nat.le_refl _) _), hr, ((Below.refl _ _).alloc (Nat.le_refl _) _).alloc (by simp) _, Nat.le_refl _, by omega, by omega⟩
  generalize (w.alloc (.cells (metV fun _ => false) 32)).alloc (.cells #[.int .i64 1] 3) = W at *
  generalize w.heap.size + 1 = g0 at *
  generalize hb0 : w.heap.size = b at *
  clear hz
  go_wp2
  go_loopw [2, 3] (fun o i wr => ∃ k g cap : Nat, 1 ≤ k ∧ k ≤ 21 ∧ i = .int .i64 k ∧ o = .slice (some ⟨g, 0, none⟩) (rpr (pre (k - 1))).length cap ∧ Hid (Gn w wr b g (pre (k - 1)))) (fun _ i _ => 21 - (intOf i).toNat)
  case atStart => exact ⟨1, g0, 1, by omega, by omega, rfl, rfl, hS0⟩
  case round =>
    clear hS0
    obtain ⟨k, g, cap, hk1, hk, rfl, rfl, hA⟩ := hrel
    obtain ⟨wo, rfl⟩ : ∃ wo : World, wo = wr := ⟨_, rfl⟩
    by_cases hlt : k ≤ 20
    · have q1 := fun w => HPOW.out k w (by omega)
      have hPL := pre_length (k - 1)
      have hnext : row7 k 7 (pre (k - 1)) = pre (k + 1 - 1) := by
        rw [show k + 1 - 1 = (k - 1) + 1 by omega, pre, show k - 1 + 1 = k by omega]
      obtain ⟨L, hL⟩ : ∃ L, L = pre (k - 1) := ⟨_, rfl⟩
      rw [← hL] at hA hPL hnext
      rw [← hL]
      have HNX := Lib.hid hnext
      have HPL : Hid (L.length ≤ 140) := by show L.length ≤ 140; omega
      have h0 : Hid (Gn w wo b g (row7 k 0 L)) := hA.out
      have he : Hid (Value.int .i64 ((ex k : Nat) : Int) = .int .i64 ((ex (k * 2 ^ 0) : Nat) : Int)) := by show _ = _; rw [Nat.pow_zero, Nat.mul_one]
      obtain ⟨E0, hE0⟩ : ∃ E0, E0 = ex k := ⟨_, rfl⟩
      rw [← hE0] at q1 he
      clear hA hPL hnext hL hE0
      go_wp2_with (go_at_call 26; (with_reducible refine (q1 _).mono ?_); rintro e w3 ⟨rfl, rfl⟩)
      clear q1
      go_loopw [2, 4, 5] (fun o a j wr => ∃ m g cap : Nat, m ≤ 7 ∧ j = .int .i64 m ∧ a = .int .i64 (ex (k * 2 ^ m) : Nat) ∧ o = .slice (some ⟨g, 0, none⟩) (rpr (row7 k m L)).length cap ∧ Hid (Gn w wr b g (row7 k m L))) (fun _ _ j _ => 7 - (intOf j).toNat)
      case atStart => exact ⟨0, g, cap, by omega, rfl, he.out, rfl, h0⟩
      case round =>
        clear h0 he
        obtain ⟨m, g, cap, hm, rfl, rfl, rfl, hI⟩ := hrel
        obtain ⟨wo, rfl⟩ : ∃ wo : World, wo = wr := ⟨_, rfl⟩
        by_cases hml : m < 7
        · have hsq : mul (ex (k * 2 ^ m)) (ex (k * 2 ^ m)) = ex (k * 2 ^ (m + 1)) := by
            rw [mul_ex, Nat.pow_succ, ← Nat.mul_assoc]; congr 1; omega
          have hrow : row7 k (m + 1) L = ex (k * 2 ^ m) :: row7 k m L := rfl
          have hLl := row7_length k m L
          obtain ⟨A, hAe⟩ : ∃ A, A = ex (k * 2 ^ m) := ⟨_, rfl⟩
          have hAl : A < 128 := by rw [hAe]; exact ex_lt _
          rw [← hAe] at hsq hrow
          rw [← hAe]
          have q2 := fun w => HMUL.out A w hAl
          obtain ⟨A2, hA2⟩ : ∃ A2, A2 = ex (k * 2 ^ (m + 1)) := ⟨_, rfl⟩
          rw [hsq, ← hA2] at q2
          obtain ⟨L', hL'⟩ : ∃ L', L' = row7 k m L := ⟨_, rfl⟩
          rw [← hL'] at hI hrow hLl
          rw [← hL']
          have hlow := rpr_low L'
          have hlen := rpr_length L'
          have hc := hI.out.met.cell A hAl
          have hfr := hI.out.met.free A
          have HR := Lib.hid hrow
          have HA2 := Lib.hid hA2
          have HPL' : Hid ((rpr L').length ≤ 900) := by show _ ≤ _; have := HPL.out; omega
          have HLOW := Lib.hid hlow
          clear hsq hrow hLl hAe hA2 hL' hlow hlen
          cases hT : L'.contains A with
          | true =>
            rw [hT] at hc
            have hlq : Hid ((rpr L').length = (rpr (row7 k (m + 1) L)).length) := by show _ = _; rw [HR.out, rpr, if_pos hT]
            have hN : Hid (Gn w wo b g (row7 k (m + 1) L)) := by show Gn w wo b g _; rw [HR.out]; exact hI.out.old hT
            clear hI hT
            go_wp2_with (go_at_call 23; (with_reducible refine (q2 _).mono ?_); rintro e w3 ⟨rfl, rfl⟩)
            go_roundw
            case rel => exact ⟨m + 1, g, cap, by omega, by go_num, by rw [HA2.out], by rw [← hlq.out], hN⟩
            case measure => simp [intOf]; omega
          | false =>
            rw [hT] at hc
            have hrw := Lib.hid ((hI.out.row).other ⟨b, A, none⟩ (.bool true) hI.out.ne)
            have HT := Lib.hid hT
            clear hT
            have hlq : Hid ((rpr L').length + 1 = (rpr (row7 k (m + 1) L)).length) := by show _ = _; rw [HR.out, rpr, if_neg (by rw [HT.out]; decide), times_length]
            have q3 := refTimes_is g cap (rpr L') A (wo.setCell ⟨b, A, none⟩ (.bool true)) hrw.out HPL'.out HLOW.out hAl
            clear hrw
            go_wp2_with (first | (go_at_call 23; (with_reducible refine (q2 _).mono ?_); rintro e w3 ⟨rfl, rfl⟩) | (go_at_call 40; (with_reducible refine q3.mono ?_); rintro e w5 ⟨g', rfl, hr5, hb5, hg5⟩; have hN : Hid (Gn w w5 b g' (row7 k (m + 1) L)) := (by show Gn w w5 b g' _; rw [HR.out]; exact hI.out.fresh HT.out hr5 hb5 hg5); clear hr5 hb5 hg5 hI q3))
            go_roundw
            case rel => exact ⟨m + 1, g', _, by omega, by go_num, by rw [HA2.out], by rw [← hlq.out], hN⟩
            case measure => simp [intOf]; omega
        · obtain rfl : m = 7 := by omega
          rw [HNX.out] at hI
          rw [HNX.out]
          clear HNX
          go_wp2
          go_roundw
          case rel => exact ⟨k + 1, g, cap, by omega, by omega, by go_num, rfl, hI⟩
          case measure => simp [intOf]; omega
    · obtain rfl : k = 21 := by omega
      have hrow : Hid (Row wo g .i64 (casts GB)) := by
        have := hA.out.row
        rw [show 21 - 1 = 20 from rfl, rpr_all] at this
        exact this
      have hl : (rpr (pre (21 - 1))).length = 64 := by rw [show 21 - 1 = 20 from rfl, rpr_all]; rfl
      rw [hl]
      have hbw : Hid (Below w.heap.size w wo) := hA.out.below
      have hnw : Hid (w.heap.size ≤ g) := hA.out.new'
      clear hA hl
      go_wp2
      go_ret
      exact ⟨g, cap, rfl, hrow.out, hbw.out, hnw.out⟩
end Go.Proofs.Ythponlnklmhbeaa
