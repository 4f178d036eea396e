/- A number in decimal: the walk. -/
import Derived.Test.YthoemgiadadfcaaDoorRdRead
import Derived.Test.YthoemgiadadfcaaDoorRowOf
set_option linter.unusedVariables false
set_option linter.unusedSimpArgs false
namespace Go.Proofs.YthoemgiadadfcaaDoor
open Go.RowKit Go.Sort Rd
namespace Rd
def str (l : List UInt8) : ByteArray := ⟨l.toArray⟩
def decL (n : Nat) : List UInt8 := if h : n < 10 then [UInt8.ofNat (48 + n)] else decL (n / 10) ++ [UInt8.ofNat (48 + n % 10)]
termination_by n
decreasing_by omega
def decI (n : Int) : List UInt8 := if n < 0 then 45 :: decL n.natAbs else decL n.natAbs
theorem str_append (a b : List UInt8) : str a ++ str b = str (a ++ b) := by
  apply ByteArray.ext
  rw [ByteArray.data_append]
  simp [str]
theorem str_size (a : List UInt8) : (str a).size = a.length := by simp [str, ByteArray.size]
theorem str_data (s : ByteArray) : str s.data.toList = s := by cases s; rfl
theorem str_toList (a : List UInt8) : (str a).data.toList = a := rfl
theorem decL_lt (n : Nat) (h : n < 10) : decL n = [UInt8.ofNat (48 + n)] := by rw [decL, dif_pos h]
theorem decL_ge (n : Nat) (h : ¬ n < 10) : decL n = decL (n / 10) ++ [UInt8.ofNat (48 + n % 10)] := by rw [decL, dif_neg h]
theorem decL_len : ∀ (k n : Nat), n < 10 ^ (k + 1) → (decL n).length ≤ k + 1
  | 0, n, h => by
    rw [decL_lt n (by simpa using h)]; simp
  | k + 1, n, h => by
    by_cases h10 : n < 10
    · rw [decL_lt n h10]; simp
    · rw [decL_ge n h10, List.length_append]
      have := decL_len k (n / 10) (by rw [Nat.pow_succ] at h; omega)
      simp; omega
end Rd
theorem one_string (W : World) (x : Int) : (convert 61 9 (.slice (some ⟨W.heap.size, 0, none⟩) 1 1)).run Tryd.prog (W.alloc (.cells #[.int .u8 x] 5)) = .ok (.string (str [UInt8.ofNat x.toNat])) (W.alloc (.cells #[.int .u8 x] 5)) :=
  run_convert_bytes_arg _ 61 5 Tryd.underlying61 Tryd.underlying5 _ 0 1 1 [x] rfl (fun i hi => by
    have hc : (W.alloc (.cells #[.int .u8 x] 5)).heap[W.heap.size]? = some (.cells #[.int .u8 x] 5 (0, 0)) := heap_alloc_new W _
    rw [Nat.zero_add, cell_of_row _ _ _ _ 5 (0, 0) hc]
    match i, hi with
    | 0, _ => rfl) 9 Tryd.underlying9
theorem digit_eq (n : Nat) : str [UInt8.ofNat (48 + (n : Int) % 10).toNat] = str [UInt8.ofNat (48 + n % 10)] := by
  rw [show (48 + (n : Int) % 10).toNat = 48 + n % 10 by omega]
set_option maxRecDepth 100000 in
set_option maxHeartbeats 1600000 in
theorem dec_nat (k : Nat) : ∀ (n : Nat) (w : World), k ≤ 20 → n < 10 ^ (k + 1) → (n : Int) ≤ 9223372036854775807 → Calls Tryd.prog 23 #[.int .i64 n] w fun e w' => e = .returned (.string (str (decL n))) ∧ Below w.heap.size w w' := by
  induction k with
  | zero =>
    intro n w hk hn hm
    have hn10 : n < 10 := by simpa using hn
    have HR : Hid (str (decL n) = str [UInt8.ofNat (48 + n % 10)]) := by show _ = _; rw [decL_lt n hn10, Nat.mod_eq_of_lt hn10]
    have kc := fun W => one_string W (48 + (n : Int) % 10)
    rw [digit_eq] at kc
    clear hn
    generalize str [UInt8.ofNat (48 + n % 10)] = D at *
    go_enter Tryd.func23, Tryd.ntmps23
    go_wp2_with fail
    go_ret
    exact ⟨by rw [HR.out]; rfl, (Below.refl _ _).alloc (Nat.le_refl _) _⟩
  | succ k ih =>
    intro n w hk hn hm
    by_cases hn10 : n < 10
    · exact ih n w (by omega) (Nat.lt_of_lt_of_le hn10 (by rw [Nat.pow_succ]; have := Nat.one_le_pow k 10 (by omega); omega)) hm
    · have HR : Hid (str (decL n) = str (decL (n / 10)) ++ str [UInt8.ofNat (48 + n % 10)]) := by show _ = _; rw [decL_ge n hn10, str_append]
      have kc := fun W => one_string W (48 + (n : Int) % 10)
      rw [digit_eq] at kc
      have hi := fun W => ih (n / 10) W (by omega) (by rw [Nat.pow_succ] at hn; omega) (by omega)
      rw [show ((n / 10 : Nat) : Int) = (n : Int) / 10 by omega] at hi
      have hsz : ¬ 9223372036854775807 < (str (decL (n / 10))).size + (str [UInt8.ofNat (48 + n % 10)]).size := by
        have := decL_len k (n / 10) (by rw [Nat.pow_succ] at hn; omega)
        rw [str_size, str_size]
        simp
        omega
      clear hn
      generalize str [UInt8.ofNat (48 + n % 10)] = D at *
      go_enter Tryd.func23, Tryd.ntmps23
      go_wp2_with (go_at_call 23; (with_reducible refine (hi _).mono ?_); rintro e w1 ⟨rfl, hb1⟩; clear hi)
      go_ret
      exact ⟨by rw [HR.out]; rfl, ((Below.refl _ w).alloc (Nat.le_refl _) _).trans (hb1.mono (by simp))⟩
set_option maxRecDepth 100000 in
set_option maxHeartbeats 1600000 in
theorem dec_is (n : Int) (w : World) (h1 : -1000000000000000000 ≤ n) (h2 : n ≤ 1000000000000000000) : Calls Tryd.prog 23 #[.int .i64 n] w fun e w' => e = .returned (.string (str (decI n))) ∧ Below w.heap.size w w' := by
  obtain ⟨m, hm⟩ : ∃ m, m = n.natAbs := ⟨_, rfl⟩
  have hq := fun W => dec_nat 18 m W (by omega) (by omega) (by omega)
  by_cases h0 : n < 0
  · have HR : Hid (str (decI n) = str [45] ++ str (decL m)) := by show _ = _; unfold decI; rw [if_pos h0, str_append, hm]; rfl
    rw [show (m : Int) = -n by omega] at hq
    have hsz : ¬ 9223372036854775807 < (str [45]).size + (str (decL m)).size := by
      have := decL_len 18 m (by omega)
      rw [str_size, str_size]
      simp
      omega
    have hst : (⟨#[45]⟩ : ByteArray) = str [45] := rfl
    clear hm
    go_enter Tryd.func23, Tryd.ntmps23
    go_wp2_with (go_at_call 23; (with_reducible refine (hq _).mono ?_); rintro e w1 ⟨rfl, hb1⟩; clear hq)
    go_ret
    exact ⟨by rw [HR.out]; rfl, hb1⟩
  · have HR : Hid (decI n = decL m) := by show _ = _; unfold decI; rw [if_neg h0, hm]
    rw [show (m : Int) = n by omega] at hq
    exact (hq w).mono fun e w' h => by rw [HR.out]; exact h
end Go.Proofs.YthoemgiadadfcaaDoor
