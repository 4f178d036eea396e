/- The walks of Zeros, New, and of the Reader's methods at nil. -/
import Derived.Test.YthhfogpkaeminaaBitsRead
namespace Go.Proofs.Ythhfogpkaeminaa
open Go.RowKit Go.Sort
theorem new_is (s : ByteArray) (w : World) : Calls Try.prog 30 #[.string s] w fun e w' => e = .returned (.pointer (some ⟨w.heap.size, 0, none⟩)) ∧ Rd w' w.heap.size s 0 ∧ Below w.heap.size w w' := by
  go_enter Try.func30, Try.ntmps30
  go_wp2
  go_ret
  exact ⟨rfl, ⟨heap_alloc_new w _, by omega⟩, (Below.refl _ _).alloc (Nat.le_refl _) _⟩
theorem left_nil (w : World) : Calls Try.prog 28 #[.pointer none] w fun e w' => e = .returned (.int .i64 0) ∧ w = w' := by
  go_enter Try.func28, Try.ntmps28
  go_wp2
  go_ret
  exact ⟨rfl, rfl⟩
theorem zeros_nil (w : World) : Calls Try.prog 29 #[.pointer none] w fun e w' => e = .returned (.bool true) ∧ w = w' := by
  go_enter Try.func29, Try.ntmps29
  go_wp2
  go_ret
  exact ⟨rfl, rfl⟩
theorem get_nil (n : Nat) (hn : n ≤ 56) (w : World) : Calls Try.prog 27 #[.pointer none, .int .i64 n] w fun e w' => e = .returned (.tuple #[.int .i64 0, .int .i64 2]) ∧ w = w' := by
  by_cases h0 : 0 < n
  · go_enter Try.func27, Try.ntmps27
    go_wp2_with (go_at_call 28; (with_reducible refine (left_nil _).mono ?_); rintro e w1 ⟨rfl, rfl⟩)
    go_ret2
    exact ⟨rfl, rfl⟩
  · obtain rfl : n = 0 := by omega
    go_enter Try.func27, Try.ntmps27
    go_wp2_with (go_at_call 28; (with_reducible refine (left_nil _).mono ?_); rintro e w1 ⟨rfl, rfl⟩)
    go_ret2
    exact ⟨rfl, rfl⟩
/-- Where a Reader stands. -/
def posOf (w : World) (k : Nat) : Nat := (intOf ((w.cell? ⟨k, 1, none⟩).getD undef)).toNat
theorem posOf_rd {w : World} {k : Nat} {s : ByteArray} {p : Nat} (h : Rd w k s p) : posOf w k = p := by
  have hc1 : w.cell? ⟨k, 1, none⟩ = some (.int .i64 p) := cell_in w k 1 _ _ _ h.1 rfl
  unfold posOf
  rw [hc1]
  simp [intOf]
/-- Is all that is left zero? -/
def zerosOf (L : List Bool) (p : Nat) : Bool := (L.drop p).all (fun b => !b)
set_option maxRecDepth 100000 in
set_option maxHeartbeats 1000000 in
theorem zeros_is (s : ByteArray) (p : Nat) (hs : s.size ≤ 100000) (k : Nat) (w : World) (h : Rd w k s p) :
    Calls Try.prog 29 #[.pointer (some ⟨k, 0, none⟩)] w fun e w' => e = .returned (.bool (zerosOf (textBits s) p)) ∧ Below w.heap.size w w' := by
  have hh := h.1
  have hc0 : w.cell? ⟨k, 0, none⟩ = some (.string s) := cell_in w k 0 _ _ _ hh rfl
  have hc1 : w.cell? ⟨k, 1, none⟩ = some (.int .i64 p) := cell_in w k 1 _ _ _ hh rfl
  have hp := h.2
  clear h hh
  go_enter Try.func29, Try.ntmps29
  go_wp2
  go_loopw [9] (fun _ wr => ∃ q : Nat, Rd wr w.heap.size s q ∧ zerosOf (textBits s) p = zerosOf (textBits s) q ∧ Below w.heap.size w wr) (fun _ wr => 8 * s.size - posOf wr w.heap.size)
  case atStart => exact ⟨p, ⟨heap_alloc_new w _, hp⟩, rfl, (Below.refl _ _).alloc (Nat.le_refl _) _⟩
  case round =>
    clear hc0 hc1
    obtain ⟨q, hR, hz, hb⟩ := hrel
    have hleft := left_is s q hs _ wr hR
    have hpos := posOf_rd hR
    have hq := hR.2
    by_cases hlt : q < 8 * s.size
    · have hgt : 0 < 8 * (s.size : Int) - q := by omega
      have hlen := textBits_length s
      have hstep : zerosOf (textBits s) q = (!(textBits s).getD q false && zerosOf (textBits s) (q + 1)) := by
        unfold zerosOf
        rw [List.drop_eq_getElem_cons (by rw [hlen]; exact hlt), List.all_cons]
        simp [List.getD_eq_getElem?_getD, List.getElem?_eq_getElem (show q < (textBits s).length by rw [hlen]; exact hlt)]
      have hnext : ∀ W, Keep wr W [] → Calls Try.prog 35 #[.pointer (some ⟨w.heap.size, 0, none⟩)] W fun e w' => e = .returned (.int .i64 (b2i ((textBits s).getD q false))) ∧ Rd w' w.heap.size s (q + 1) ∧ Keep W w' [w.heap.size] :=
        fun W hW => next_is s q hlt hs _ W (hR.keep hW (by simp))
      cases hbit : (textBits s).getD q false with
      | false =>
        rw [hbit] at hstep hnext
        rw [show b2i false = 0 from rfl] at hnext
        have HZ := Lib.hid (And.intro hz hstep)
        have HP := Lib.hid hpos
        clear hz hstep hbit hlen hR hpos
        go_wp2_with (first | (go_at_call 28; (with_reducible refine hleft.mono ?_); rintro e w1 ⟨rfl, hk1⟩) | (go_at_call 35; (with_reducible refine (hnext _ hk1).mono ?_); rintro e w2 ⟨rfl, hR2, hk2⟩))
        go_roundw
        case rel => exact ⟨q + 1, hR2, by rw [HZ.out.1, HZ.out.2]; rfl, hk2.below (hk1.below hb (by simp)) (by simp)⟩
        case measure => rw [posOf_rd hR2, HP.out]; omega
      | true =>
        rw [hbit] at hstep hnext
        rw [show b2i true = 1 from rfl] at hnext
        have hfalse : zerosOf (textBits s) p = false := by rw [hz, hstep]; rfl
        clear hz hstep hbit hlen hR hpos
        go_wp2_with (first | (go_at_call 28; (with_reducible refine hleft.mono ?_); rintro e w1 ⟨rfl, hk1⟩) | (go_at_call 35; (with_reducible refine (hnext _ hk1).mono ?_); rintro e w2 ⟨rfl, hR2, hk2⟩))
        go_ret
        rw [hfalse]
        exact ⟨rfl, hk2.below (hk1.below hb (by simp)) (by simp)⟩
    · have hle : 8 * (s.size : Int) - q ≤ 0 := by omega
      have htrue : zerosOf (textBits s) p = true := by
        rw [hz]; unfold zerosOf
        rw [List.drop_eq_nil_of_le (by rw [textBits_length]; omega)]; rfl
      clear hz hR hpos
      go_wp2_with (go_at_call 28; (with_reducible refine hleft.mono ?_); rintro e w1 ⟨rfl, hk1⟩)
      go_ret
      rw [htrue]
      exact ⟨rfl, hk1.below hb (by simp)⟩
end Go.Proofs.Ythhfogpkaeminaa
