/- The walks of the Writer's methods: Put, Bits, Bytes. -/
import Derived.Test.YthhfogpkaeminaaBitsOne
namespace Go.Proofs.Ythhfogpkaeminaa
open Go.RowKit Go.Sort
theorem bit_nat (c m : Nat) : bits .and .i64 ((c : Int) / 2 ^ m) 1 = if c.testBit m then 1 else 0 := by
  rw [and_one_i64]
  have e : ((c : Int) / 2 ^ m) % 2 = ((c / 2 ^ m % 2 : Nat) : Int) := by
    rw [Int.natCast_emod, Int.natCast_ediv, Int.natCast_pow]; rfl
  rw [e, Nat.testBit_eq_decide_div_mod_eq]
  have := Nat.mod_two_eq_zero_or_one (c / 2 ^ m)
  rcases this with h | h <;> simp [h]
theorem laid_refl {w : World} {k : Nat} {F : List Nat} {l : List Bool} (h : Wr w k F l) : Laid w k F l w := ⟨F, h, Keep.refl _ _, fun _ hj => .inl hj⟩
theorem laid_then {w w1 w2 : World} {k : Nat} {F F' : List Nat} {l : List Bool} (h2 : Keep w w1 (k :: F)) (h3 : ∀ j ∈ F', j ∈ F ∨ w.heap.size ≤ j) (h : Laid w1 k F' l w2) : Laid w k F l w2 := by
  obtain ⟨F2, g1, g2, g3⟩ := h
  refine ⟨F2, g1, h2.then g2 ?_, ?_⟩
  · intro j hj
    rcases List.mem_cons.1 hj with h | h
    · exact .inl (by simp [h])
    · rcases h3 j h with h4 | h4
      · exact .inl (by simp [h4])
      · exact .inr h4
  · intro j hj
    rcases g3 j hj with h | h
    · exact h3 j h
    · exact .inr (Nat.le_trans h2.size h)
/-- What Put answers. -/
def putErr (x n : Int) : Int := if n < 0 ∨ 56 < n then 1 else if x < 0 ∨ (2 : Int) ^ n.toNat ≤ x then 7 else 0
/-- What Put lays. -/
def putBits (x n : Int) : List Bool := if putErr x n = 0 then Bits.bitsN x.toNat n.toNat else []
theorem putBits_err (x n : Int) (h : putErr x n ≠ 0) : putBits x n = [] := by unfold putBits; rw [if_neg h]
set_option maxRecDepth 100000 in
set_option maxHeartbeats 1000000 in
theorem put_ok (X N : Nat) (hN : N ≤ 56) (hX : X < 2 ^ N) (l : List Bool) (hl : l.length ≤ 99000) (k : Nat) (F : List Nat) (w : World) (h : Wr w k F l) :
    Calls Try.prog 18 #[.pointer (some ⟨k, 0, none⟩), .int .i64 X, .int .i64 N] w fun e w' => e = .returned (.int .i64 0) ∧ Laid w k F (l ++ Bits.bitsN X N) w' := by
  have hmf : ∀ (fn : Fn) (first cap : Array Value) (w : World), (Instr.makeFunc fn first cap).run Try.prog w = .ok (.func fn first cap) w := fun _ _ _ _ => rfl
  have hq : (X : Int) / 2 ^ N = 0 := by
    have e : ((X : Int) / 2 ^ N) = ((X / 2 ^ N : Nat) : Int) := by rw [Int.natCast_ediv, Int.natCast_pow]; rfl
    rw [e, Nat.div_eq_of_lt hX]; rfl
  clear hX
  go_enter Try.func18, Try.ntmps18
  go_wp2
  go_loopw [8] (fun i wr => ∃ j : Nat, j ≤ N ∧ i = .int .i64 ((N : Int) - 1 - j) ∧ Laid w k F (l ++ (Bits.bitsN X N).take j) wr) (fun i _ => (intOf i + 1).toNat)
  case atStart => exact ⟨0, by omega, by go_num, by rw [List.take_zero, List.append_nil]; exact laid_refl h⟩
  case round =>
    obtain ⟨j, hj, rfl, hL⟩ := hrel
    by_cases hlt : j < N
    · obtain ⟨F1, hW, hK, hS⟩ := hL
      have HT := Lib.hid (Bits.bitsN_take X N j hlt)
      have HL := Lib.hid (show (l ++ (Bits.bitsN X N).take j).length ≤ 100000 by simp; omega)
      have HKS := Lib.hid (And.intro hK hS)
      have HW := Lib.hid hW
      clear hK hS hW
      obtain ⟨m, hm⟩ : ∃ m : Nat, (N : Int) - 1 - j = m := ⟨N - 1 - j, by omega⟩
      have hm2 : N - 1 - j = m := by omega
      have HM := Lib.hid hm2
      clear hm2
      go_wp2_with (go_at_call 34; refine (one_is _ _ _ (bit_nat X m) HL.out _ _ _ HW.out).mono ?_; rintro e w1 ⟨rfl, hL1⟩)
      go_roundw
      case rel =>
        refine ⟨j + 1, by omega, by go_num, ?_⟩
        have hh := laid_then HKS.out.1 HKS.out.2 hL1
        rw [List.append_assoc, ← HM.out, ← HT.out] at hh
        exact hh
      case measure => simp [intOf]; omega
    · obtain rfl : j = N := by omega
      rw [List.take_of_length_le (by rw [Bits.bitsN_length]; omega)] at hL
      go_wp2
      go_ret
      exact ⟨rfl, hL⟩

set_option maxRecDepth 100000 in
theorem put_arg (x n : Int) (hn : n < 0 ∨ 56 < n) (k : Nat) (w : World) :
    Calls Try.prog 18 #[.pointer (some ⟨k, 0, none⟩), .int .i64 x, .int .i64 n] w fun e w' => e = .returned (.int .i64 1) ∧ w = w' := by
  rcases hn with hn | hn
  · go_enter Try.func18, Try.ntmps18
    go_wp2
    go_ret
    exact ⟨rfl, rfl⟩
  · have hn2 : ¬ n < 0 := by omega
    go_enter Try.func18, Try.ntmps18
    go_wp2
    go_ret
    exact ⟨rfl, rfl⟩
set_option maxRecDepth 100000 in
theorem put_range (x n : Int) (h0 : 0 ≤ n) (h1 : n ≤ 56) (hx : x < 0 ∨ 0 < x / 2 ^ n.toNat) (k : Nat) (w : World) :
    Calls Try.prog 18 #[.pointer (some ⟨k, 0, none⟩), .int .i64 x, .int .i64 n] w fun e w' => e = .returned (.int .i64 7) ∧ w = w' := by
  obtain ⟨N, rfl⟩ := Int.eq_ofNat_of_zero_le h0
  rw [Int.toNat_natCast] at hx
  by_cases hneg : x < 0
  · clear hx
    go_enter Try.func18, Try.ntmps18
    go_wp2
    go_ret
    exact ⟨rfl, rfl⟩
  · have hx2 : 0 < x / 2 ^ N := by rcases hx with h | h; exact absurd h hneg; exact h
    clear hx
    go_enter Try.func18, Try.ntmps18
    go_wp2
    go_ret
    exact ⟨rfl, rfl⟩
/-- Put, whatever is put. -/
theorem put_is (x n : Int) (l : List Bool) (hl : l.length ≤ 99000) (k : Nat) (F : List Nat) (w : World) (h : Wr w k F l) :
    Calls Try.prog 18 #[.pointer (some ⟨k, 0, none⟩), .int .i64 x, .int .i64 n] w fun e w' => e = .returned (.int .i64 (putErr x n)) ∧ Laid w k F (l ++ putBits x n) w' := by
  by_cases hn : n < 0 ∨ 56 < n
  · have he : putErr x n = 1 := by unfold putErr; rw [if_pos hn]
    refine (put_arg x n hn k w).mono fun e w' ⟨h1, h2⟩ => ?_
    subst h2
    rw [putBits_err x n (by rw [he]; decide), List.append_nil, he]
    exact ⟨h1, laid_refl h⟩
  · have h0 : 0 ≤ n := by omega
    have h56 : n ≤ 56 := by omega
    obtain ⟨N, rfl⟩ := Int.eq_ofNat_of_zero_le h0
    by_cases hx : x < 0 ∨ (2 : Int) ^ N ≤ x
    · have he : putErr x N = 7 := by unfold putErr; rw [if_neg hn, Int.toNat_natCast, if_pos hx]
      have hp : (0 : Int) < 2 ^ N := Int.pow_pos (by decide)
      have hx2 : x < 0 ∨ 0 < x / 2 ^ (N : Int).toNat := by
        rcases hx with h | h
        · exact .inl h
        · refine .inr ?_
          rw [Int.toNat_natCast]
          exact Int.lt_of_lt_of_le (show (0 : Int) < 1 by decide) (Int.le_ediv_of_mul_le hp (by rw [Int.one_mul]; exact h))
      refine (put_range x N h0 h56 hx2 k w).mono fun e w' ⟨h1, h2⟩ => ?_
      subst h2
      rw [putBits_err x N (by rw [he]; decide), List.append_nil, he]
      exact ⟨h1, laid_refl h⟩
    · have he : putErr x N = 0 := by unfold putErr; rw [if_neg hn, Int.toNat_natCast, if_neg hx]
      have hb : putBits x N = Bits.bitsN x.toNat N := by unfold putBits; rw [if_pos he, Int.toNat_natCast]
      obtain ⟨X, rfl⟩ := Int.eq_ofNat_of_zero_le (show 0 ≤ x by omega)
      rw [he, hb, Int.toNat_natCast]
      have hlt : X < 2 ^ N := by
        have : (X : Int) < ((2 ^ N : Nat) : Int) := by rw [Int.natCast_pow]; simp only [not_or, Int.not_le] at hx; exact hx.2
        exact Int.ofNat_lt.1 this
      exact put_ok X N (by omega) hlt l hl k F w h
/-- Bits. -/
theorem bits_is (l : List Bool) (k : Nat) (F : List Nat) (w : World) (h : Wr w k F l) :
    Calls Try.prog 20 #[.pointer (some ⟨k, 0, none⟩)] w fun e w' => e = .returned (.int .i64 l.length) ∧ w = w' := by
  obtain ⟨v, hh, _, _⟩ := h
  have hc1 : w.cell? ⟨k, 1, none⟩ = some (.int .i64 l.length) := cell_in w k 1 _ _ _ hh rfl
  clear hh
  go_enter Try.func20, Try.ntmps20
  go_wp2
  go_ret
  exact ⟨rfl, rfl⟩
/-- The text of bits. -/
def packed (l : List Bool) : ByteArray := strOfNums (casts (Bits.pack l))
theorem bs_packed (l : List Bool) : bs (packed l) = Bits.pack l := bs_strOfNums _ (Bits.pack_lt l)
/-- Bytes. -/
theorem bytes_is (l : List Bool) (k : Nat) (F : List Nat) (w : World) (h : Wr w k F l) :
    Calls Try.prog 19 #[.pointer (some ⟨k, 0, none⟩)] w fun e w' => e = .returned (.string (packed l)) ∧ w = w' := by
  obtain ⟨v, hh, ho, _⟩ := h
  have hc0 : w.cell? ⟨k, 0, none⟩ = some v := cell_in w k 0 _ _ _ hh rfl
  have kc : (convert 26 9 v).run Try.prog w = .ok (.string (packed l)) w := own_string ho Try.underlying26 Try.underlying5 Try.underlying9
  clear hh ho
  go_enter Try.func19, Try.ntmps19
  go_wp2
  go_ret
  exact ⟨rfl, rfl⟩
/-- A new Writer. -/
theorem wr_new (w : World) : Wr (w.alloc (.cells #[.slice none 0 0, .int .i64 0] 31)) w.heap.size [] [] :=
  ⟨.slice none 0 0, heap_alloc_new w _, Own.nil _ _ _, rfl⟩
/-- nil. -/
theorem put_nil (x n : Int) (w : World) : Calls Try.prog 18 #[.pointer none, .int .i64 x, .int .i64 n] w fun e w' => e = .returned (.int .i64 1) ∧ w = w' := by
  go_enter Try.func18, Try.ntmps18
  go_wp2
  go_ret
  exact ⟨rfl, rfl⟩
theorem bits_nil (w : World) : Calls Try.prog 20 #[.pointer none] w fun e w' => e = .returned (.int .i64 0) ∧ w = w' := by
  go_enter Try.func20, Try.ntmps20
  go_wp2
  go_ret
  exact ⟨rfl, rfl⟩
theorem bytes_nil (w : World) : Calls Try.prog 19 #[.pointer none] w fun e w' => e = .returned (.string ⟨#[]⟩) ∧ w = w' := by
  go_enter Try.func19, Try.ntmps19
  go_wp2
  go_ret
  exact ⟨rfl, rfl⟩

theorem put_5_3 (k : Nat) (F : List Nat) (w : World) (h : Wr w k F []) :
    Calls Try.prog 18 #[.pointer (some ⟨k, 0, none⟩), .int .i64 5, .int .i64 3] w fun e w' => e = .returned (.int .i64 0) ∧ Laid w k F [true, false, true] w' := by
  have := put_is 5 3 [] (by decide) k F w h
  rwa [show putErr 5 3 = 0 by decide, show [] ++ putBits 5 3 = [true, false, true] by decide] at this
theorem put_1_1 (k : Nat) (F : List Nat) (w : World) (h : Wr w k F [true, false, true]) :
    Calls Try.prog 18 #[.pointer (some ⟨k, 0, none⟩), .int .i64 1, .int .i64 1] w fun e w' => e = .returned (.int .i64 0) ∧ Laid w k F [true, false, true, true] w' := by
  have := put_is 1 1 [true, false, true] (by decide) k F w h
  rwa [show putErr 1 1 = 0 by decide, show [true, false, true] ++ putBits 1 1 = [true, false, true, true] by decide] at this
theorem packed_4 : packed [true, false, true, true] = ⟨#[176]⟩ := by decide +kernel
/-- The document's example. -/
theorem bitsAwake_is (w : World) : Calls Try.prog 17 #[] w fun e w' => e = .returned (.bool true) ∧ Below w.heap.size w w' := by
  have h0 := wr_new w
  have by4 : ∀ F W, Wr W w.heap.size F [true, false, true, true] → Calls Try.prog 19 #[.pointer (some ⟨w.heap.size, 0, none⟩)] W fun e w' => e = .returned (.string ⟨#[176]⟩) ∧ W = w' := fun F W h => by
    have := bytes_is _ _ F W h
    rwa [packed_4] at this
  have bi4 : ∀ F W, Wr W w.heap.size F [true, false, true, true] → Calls Try.prog 20 #[.pointer (some ⟨w.heap.size, 0, none⟩)] W fun e w' => e = .returned (.int .i64 4) ∧ W = w' := fun F W h => bits_is _ _ F W h
  go_enter Try.func17, Try.ntmps17
  go_wp2_with (first | (go_at_call 18; (with_reducible refine (put_5_3 _ _ _ h0).mono ?_); rintro e w1 ⟨rfl, F1, hW1, hK1, hS1⟩) | (go_at_call 18; (with_reducible refine (put_1_1 _ _ _ (by assumption)).mono ?_); rintro e w2 ⟨rfl, F2, hW2, hK2, hS2⟩) | (go_at_call 19; (with_reducible refine (by4 _ _ (by assumption)).mono ?_); rintro e w' ⟨rfl, rfl⟩) | (go_at_call 20; (with_reducible refine (bi4 _ _ (by assumption)).mono ?_); rintro e w' ⟨rfl, rfl⟩))
  go_ret
  refine ⟨rfl, ?_⟩
  have hA : Below w.heap.size w (w.alloc (.cells #[.slice none 0 0, .int .i64 0] 31)) := (Below.refl _ _).alloc (Nat.le_refl _) _
  refine hK2.below (hK1.below hA (by simp)) ?_
  intro j hj
  rcases List.mem_cons.1 hj with h | h
  · omega
  · rcases hS1 j h with h | h
    · simp at h
    · simp at h; omega
end Go.Proofs.Ythhfogpkaeminaa
