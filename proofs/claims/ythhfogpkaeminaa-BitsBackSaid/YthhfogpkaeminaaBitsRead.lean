/- The walks of the Reader's methods: next, Left, Get, Zeros; New. -/
import Derived.Test.YthhfogpkaeminaaBitsTwo
namespace Go.Proofs.Ythhfogpkaeminaa
open Go.RowKit Go.Sort
/-- Block k is a Reader of s that stands at bit p. -/
def Rd (w : World) (k : Nat) (s : ByteArray) (p : Nat) : Prop := w.heap[k]? = some (.cells #[.string s, .int .i64 p] 67 (0, 0)) ∧ p ≤ 8 * s.size
theorem Rd.lt {w : World} {k : Nat} {s : ByteArray} {p : Nat} (h : Rd w k s p) : k < w.heap.size := (Array.getElem?_eq_some_iff.1 h.1).1
theorem Rd.keep {w w' : World} {k : Nat} {s : ByteArray} {p : Nat} {F : List Nat} (h : Rd w k s p) (hk : Keep w w' F) (hn : k ∉ F) : Rd w' k s p := ⟨(hk.block k h.lt hn).trans h.1, h.2⟩
/-- A text's bits. -/
def textBits (s : ByteArray) : List Bool := byteBits (bs s)
theorem textBits_length (s : ByteArray) : (textBits s).length = 8 * s.size := by unfold textBits; rw [byteBits_length, bs_length]
theorem byteBits_getD (l : List Nat) : ∀ p, p < 8 * l.length → (byteBits l).getD p false = (l.getD (p / 8) 0).testBit (7 - p % 8) := by
  induction l with
  | nil => intro p h; simp at h
  | cons c l ih =>
    intro p hp
    have e : byteBits (c :: l) = Bits.bitsN c 8 ++ byteBits l := by simp [byteBits]
    rw [e, List.getD_eq_getElem?_getD]
    by_cases h : p < 8
    · rw [List.getElem?_append_left (by rw [Bits.bitsN_length]; exact h), List.getElem?_eq_getElem (by rw [Bits.bitsN_length]; exact h), Bits.bitsN_get _ _ _ h]
      rw [show p / 8 = 0 by omega, show p % 8 = p by omega]
      simp
    · rw [List.getElem?_append_right (by rw [Bits.bitsN_length]; omega), Bits.bitsN_length, ← List.getD_eq_getElem?_getD, ih (p - 8) (by simp at hp; omega)]
      rw [show p / 8 = (p - 8) / 8 + 1 by omega, show (p - 8) % 8 = p % 8 by omega]
      simp
theorem textBits_at (s : ByteArray) (p : Nat) (hp : p < 8 * s.size) (h : p / 8 < s.size) : (textBits s).getD p false = (s[p / 8]'h).toNat.testBit (7 - p % 8) := by
  unfold textBits
  rw [byteBits_getD _ _ (by rw [bs_length]; exact hp), List.getD_eq_getElem?_getD, List.getElem?_eq_getElem (by rw [bs_length]; exact h), Option.getD_some, bs_get s _ h]
theorem bit_u8' (u : UInt8) (m : Nat) : bits .and .i64 (wrap64 (u.toNat : Int) / 2 ^ m) 1 = b2i (u.toNat.testBit m) := bit_u8 u m
theorem ret_int {k : IntKind} {a b : Int} (h : a = b) : Ending.returned (.int k a) = .returned (.int k b) := by rw [h]
set_option maxRecDepth 100000 in
set_option maxHeartbeats 1000000 in
theorem next_is (s : ByteArray) (p : Nat) (hp : p < 8 * s.size) (hs : s.size ≤ 100000) (k : Nat) (w : World) (h : Rd w k s p) :
    Calls Try.prog 35 #[.pointer (some ⟨k, 0, none⟩)] w fun e w' => e = .returned (.int .i64 (b2i ((textBits s).getD p false))) ∧ Rd w' k s (p + 1) ∧ Keep w w' [k] := by
  have hlt : p / 8 < s.size := by omega
  have hh := h.1
  have hc0 : w.cell? ⟨k, 0, none⟩ = some (.string s) := cell_in w k 0 _ _ _ hh rfl
  have hc1 : w.cell? ⟨k, 1, none⟩ = some (.int .i64 p) := cell_in w k 1 _ _ _ hh rfl
  have hf1 := free_in w k 1 _ _ hh
  obtain ⟨q, hq⟩ : ∃ q : Nat, (p : Int) / 8 = q := ⟨p / 8, by omega⟩
  have hq2 : q = p / 8 := by omega
  have hqlt : q < s.size := by omega
  have hbit : (textBits s).getD p false = (s[q]'hqlt).toNat.testBit (7 - p % 8) := by
    rw [textBits_at s p hp hlt]
    simp only [hq2]
  have HB := Lib.hid hbit
  have HQ := Lib.hid hq2
  clear hq2 hlt hbit
  have hp0 : p ≤ 800000 := by omega
  have HH := Lib.hid h
  have HP := Lib.hid hp
  clear h hh hp
  go_enter Try.func35, Try.ntmps35
  go_wp2
  go_quiet (fail)
  go_wp2
  go_ret
  refine ⟨ret_int (by rw [HB.out]; exact bit_u8' _ _), ?_, (Keep.drewN w nq [k]).trans (Keep.setCell _ _ _ _ (by simp))⟩
  refine ⟨?_, by have := HP.out; omega⟩
  rw [heap_setCell_same (w.drewN nq) k 1 #[.string s, .int .i64 p] 67 (.int .i64 ((p : Int) + 1)) HH.out.1]
  simp
set_option maxRecDepth 100000 in
theorem left_is (s : ByteArray) (p : Nat) (hs : s.size ≤ 100000) (k : Nat) (w : World) (h : Rd w k s p) :
    Calls Try.prog 28 #[.pointer (some ⟨k, 0, none⟩)] w fun e w' => e = .returned (.int .i64 (8 * (s.size : Int) - p)) ∧ Keep w w' [] := by
  have hh := h.1
  have hc0 : w.cell? ⟨k, 0, none⟩ = some (.string s) := cell_in w k 0 _ _ _ hh rfl
  have hc1 : w.cell? ⟨k, 1, none⟩ = some (.int .i64 p) := cell_in w k 1 _ _ _ hh rfl
  have hp := h.2
  clear h hh
  go_enter Try.func28, Try.ntmps28
  go_wp2
  go_region
  go_wp2
  go_ret
  exact ⟨rfl, Keep.drew _ _⟩

/-- What Get answers, and where it leaves the Reader. -/
def getOf (L : List Bool) (p : Nat) (n : Int) : Nat × Int × Nat :=
  if n < 0 ∨ 56 < n then (0, 1, p) else if ((L.length - p : Nat) : Int) < n then (0, 2, p) else (Bits.num ((L.drop p).take n.toNat), 0, p + n.toNat)
theorem num_lt (l : List Bool) : Bits.num l < 2 ^ l.length := by
  have h : ∀ (m : List Bool) a, m.foldl (fun a b => 2 * a + b.toNat) a < (a + 1) * 2 ^ m.length := by
    intro m
    induction m with
    | nil => intro a; simp
    | cons b m ih =>
      intro a
      simp only [List.foldl_cons, List.length_cons]
      refine Nat.lt_of_lt_of_le (ih _) ?_
      have h2 := Bool.toNat_le b
      have h1 : 2 * a + b.toNat + 1 ≤ 2 * (a + 1) := by omega
      calc (2 * a + b.toNat + 1) * 2 ^ m.length ≤ (2 * (a + 1)) * 2 ^ m.length := Nat.mul_le_mul_right _ h1
        _ = (a + 1) * 2 ^ (m.length + 1) := by rw [Nat.pow_succ, Nat.mul_comm 2 (a + 1), Nat.mul_assoc, Nat.mul_comm 2]
  unfold Bits.num
  simpa using h l 0
theorem drop_take_succ (L : List Bool) (p j : Nat) (h : p + j < L.length) : (L.drop p).take (j + 1) = (L.drop p).take j ++ [L.getD (p + j) false] := by
  rw [List.take_succ_eq_append_getElem (by rw [List.length_drop]; omega), List.getElem_drop]
  simp [List.getD_eq_getElem?_getD, List.getElem?_eq_getElem h]
set_option maxRecDepth 100000 in
set_option maxHeartbeats 1000000 in
theorem get_ok (s : ByteArray) (p N : Nat) (hN : N ≤ 56) (hp : p + N ≤ 8 * s.size) (hs : s.size ≤ 100000) (k : Nat) (w : World) (h : Rd w k s p) :
    Calls Try.prog 27 #[.pointer (some ⟨k, 0, none⟩), .int .i64 N] w fun e w' => e = .returned (.tuple #[.int .i64 (Bits.num (((textBits s).drop p).take N) : Nat), .int .i64 0]) ∧ Rd w' k s (p + N) ∧ Keep w w' [k] := by
  have hmf : ∀ (fn : Fn) (first cap : Array Value) (w : World), (Instr.makeFunc fn first cap).run Try.prog w = .ok (.func fn first cap) w := fun _ _ _ _ => rfl
  have hleft := left_is s p hs k w h
  have hge : (N : Int) ≤ 8 * (s.size : Int) - p := by omega
  have HR := Lib.hid h
  clear h
  go_enter Try.func27, Try.ntmps27
  go_wp2_with (go_at_call 28; (with_reducible refine hleft.mono ?_); rintro e w1 ⟨rfl, hk1⟩)
  go_loopw [7, 27] (fun x i wr => ∃ j : Nat, j ≤ N ∧ i = .int .i64 j ∧ x = .int .i64 (Bits.num (((textBits s).drop p).take j) : Nat) ∧ Rd wr k s (p + j) ∧ Keep w wr [k]) (fun _ i _ => N - (intOf i).toNat)
  case atStart => exact ⟨0, by omega, rfl, rfl, HR.out.keep hk1 (by simp), hk1.mono (by simp)⟩
  case round =>
    clear hk1
    obtain ⟨j, hj, rfl, rfl, hR, hK⟩ := hrel
    by_cases hlt : j < N
    · have hnext := next_is s (p + j) (by omega) hs k wr hR
      have htk := drop_take_succ (textBits s) p j (by rw [textBits_length]; omega)
      have hnl := num_lt (((textBits s).drop p).take j)
      have hnl2 : 2 ^ (((textBits s).drop p).take j).length ≤ 2 ^ 55 := Nat.pow_le_pow_right (by decide) (by rw [List.length_take]; omega)
      obtain ⟨q, hq⟩ : ∃ q, q = Bits.num (((textBits s).drop p).take j) := ⟨_, rfl⟩
      obtain ⟨t, ht⟩ : ∃ t : Nat, t = ((textBits s).getD (p + j) false).toNat := ⟨_, rfl⟩
      have ht1 : t ≤ 1 := by rw [ht]; exact Bool.toNat_le _
      have htb : b2i ((textBits s).getD (p + j) false) = (t : Int) := by rw [ht]; cases (textBits s).getD (p + j) false <;> rfl
      rw [htb] at hnext
      have hq1 : q ≤ 36028797018963968 := by rw [hq]; exact Nat.le_of_lt (Nat.lt_of_lt_of_le hnl hnl2)
      have hn1 : Hid (Bits.num (((textBits s).drop p).take (j + 1)) = 2 * q + t) := by
        show Bits.num (((textBits s).drop p).take (j + 1)) = 2 * q + t
        rw [htk, Bits.num_snoc, hq, ht]
      rw [← hq]
      have HK := Lib.hid hK
      clear hnl hnl2 htk ht htb hq hR hK
      go_wp2_with (go_at_call 35; (with_reducible refine hnext.mono ?_); rintro e w2 ⟨rfl, hR2, hK2⟩)
      go_roundw
      case rel => exact ⟨j + 1, by omega, by go_num, by rw [hn1.out]; go_num, hR2, HK.out.trans hK2⟩
      case measure => simp [intOf]; omega
    · obtain rfl : j = N := by omega
      go_wp2
      go_ret2
      exact ⟨rfl, hR, hK⟩
set_option maxRecDepth 100000 in
theorem get_arg (n : Int) (hn : n < 0 ∨ 56 < n) (k : Nat) (w : World) :
    Calls Try.prog 27 #[.pointer (some ⟨k, 0, none⟩), .int .i64 n] w fun e w' => e = .returned (.tuple #[.int .i64 0, .int .i64 1]) ∧ w = w' := by
  rcases hn with hn | hn
  · go_enter Try.func27, Try.ntmps27
    go_wp2
    go_ret2
    exact ⟨rfl, rfl⟩
  · have hn2 : ¬ n < 0 := by omega
    go_enter Try.func27, Try.ntmps27
    go_wp2
    go_ret2
    exact ⟨rfl, rfl⟩
set_option maxRecDepth 100000 in
theorem get_short (s : ByteArray) (p N : Nat) (hN : N ≤ 56) (hp : 8 * s.size < p + N) (hs : s.size ≤ 100000) (k : Nat) (w : World) (h : Rd w k s p) :
    Calls Try.prog 27 #[.pointer (some ⟨k, 0, none⟩), .int .i64 N] w fun e w' => e = .returned (.tuple #[.int .i64 0, .int .i64 2]) ∧ Keep w w' [] := by
  have hleft := left_is s p hs k w h
  have hge : 8 * (s.size : Int) - p < (N : Int) := by omega
  clear h
  go_enter Try.func27, Try.ntmps27
  go_wp2_with (go_at_call 28; (with_reducible refine hleft.mono ?_); rintro e w1 ⟨rfl, hk1⟩)
  go_ret2
  exact ⟨rfl, hk1⟩
/-- Get, whatever is asked. -/
theorem get_is (s : ByteArray) (p : Nat) (n : Int) (hs : s.size ≤ 100000) (k : Nat) (w : World) (h : Rd w k s p) :
    Calls Try.prog 27 #[.pointer (some ⟨k, 0, none⟩), .int .i64 n] w fun e w' => e = .returned (.tuple #[.int .i64 ((getOf (textBits s) p n).1 : Nat), .int .i64 (getOf (textBits s) p n).2.1]) ∧ Rd w' k s (getOf (textBits s) p n).2.2 ∧ Keep w w' [k] := by
  have hp := h.2
  by_cases hn : n < 0 ∨ 56 < n
  · rw [show getOf (textBits s) p n = (0, 1, p) by unfold getOf; rw [if_pos hn]]
    refine (get_arg n hn k w).mono fun e w' ⟨h1, h2⟩ => ?_
    subst h2
    exact ⟨h1, h, Keep.refl _ _⟩
  · obtain ⟨N, rfl⟩ := Int.eq_ofNat_of_zero_le (show 0 ≤ n by omega)
    by_cases hl : 8 * s.size < p + N
    · rw [show getOf (textBits s) p N = (0, 2, p) by unfold getOf; rw [if_neg hn, if_pos (by rw [textBits_length]; omega)]]
      exact (get_short s p N (by omega) hl hs k w h).mono fun e w' ⟨h1, h2⟩ => ⟨h1, h.keep h2 (by simp), h2.mono (by simp)⟩
    · rw [show getOf (textBits s) p N = (Bits.num (((textBits s).drop p).take N), 0, p + N) by unfold getOf; rw [if_neg hn, if_neg (by rw [textBits_length]; omega), Int.toNat_natCast]]
      exact get_ok s p N (by omega) (by omega) hs k w h
end Go.Proofs.Ythhfogpkaeminaa
