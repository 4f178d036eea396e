/- The walk of the law CrcBursts. -/
import Derived.Test.YthhfogpkaeminaaCrcBurstPure
import Derived.BigRegion
import Derived.BigQuiet
namespace Go.Proofs.Ythhfogpkaeminaa
open Go.RowKit Go.Sort
theorem seal_at (s : ByteArray) (hs : s.size ≤ 140737488351232) (w : World) :
    Calls Try.prog 24 #[.string s] w fun e w' => e = .returned (.string (sealOf s)) ∧ Below w.heap.size w w' := seal_is s hs w
theorem strOfNums_ints (s : ByteArray) : strOfNums (ints s) = s := bs_inj _ _ (bs_strOfNums _ (bs_lt s))
def casts (l : List Nat) : List Int := l.map Nat.cast
theorem casts_length (l : List Nat) : (casts l).length = l.length := by simp [casts]
theorem wraps_u16 (n : Int) (h₀ : 0 ≤ n) (h₁ : n < 2 ^ 16) : IntKind.u16.wrap n = n := by rw [IntKind.wrap_u16]; omega
theorem bit_u16 (c k : Nat) (hc : c < 65536) : (bits .and .u16 ((c : Int) / 2 ^ k) 1 == 1) = c.testBit k := by
  have e : (c : Int) / 2 ^ k = ((c / 2 ^ k : Nat) : Int) := by rw [Int.natCast_ediv, Int.natCast_pow]; rfl
  have hle : c / 2 ^ k ≤ c := Nat.div_le_self _ _
  rw [e, show (1 : Int) = ((1 : Nat) : Int) from rfl, (bits_nat .u16 16 (by decide) wraps_u16 _ _ (by omega) (by omega)).1, Nat.and_one_is_mod, Nat.testBit_eq_decide_div_mod_eq]
  have := Nat.mod_two_eq_zero_or_one (c / 2 ^ k)
  rcases this with h | h <;> rw [h] <;> rfl
theorem pow_shift (m : Nat) (hm : m < 8) : (128 : Int) / 2 ^ m = ((2 ^ (7 - m) : Nat) : Int) := by
  have : m = 0 ∨ m = 1 ∨ m = 2 ∨ m = 3 ∨ m = 4 ∨ m = 5 ∨ m = 6 ∨ m = 7 := by omega
  rcases this with rfl | rfl | rfl | rfl | rfl | rfl | rfl | rfl <;> rfl
set_option maxRecDepth 100000 in
set_option maxHeartbeats 1000000 in
theorem crcBursts_walk (s : ByteArray) (A C : Int) (w : World) (_hs : s.size ≤ 140737488351232) (hA : (Lit.int .u16 A).wf = true) (hC : (Lit.int .u16 C).wf = true) :
    Calls Try.prog 8 #[.string s, .int .u16 A, .int .u16 C] w fun e w' => e = .returned (.bool true) ∧ Below w.heap.size w w' := by
  clear _hs
  have hb0 := Below.refl w.heap.size w
  have hA' : 0 ≤ A ∧ A ≤ 65535 := by
    simp only [Lit.wf, Bool.and_eq_true, decide_eq_true_eq] at hA; exact hA
  have hC' : 0 ≤ C ∧ C ≤ 65535 := by
    simp only [Lit.wf, Bool.and_eq_true, decide_eq_true_eq] at hC; exact hC
  clear hA hC
  obtain ⟨hA0, hA1⟩ := hA'
  obtain ⟨hC0, hC1⟩ := hC'
  by_cases h1 : s.size ≤ 600
  · obtain ⟨ch, rfl⟩ := Int.eq_ofNat_of_zero_le hC0
    obtain ⟨a, rfl⟩ := Int.eq_ofNat_of_zero_le hA0
    obtain ⟨x, hx⟩ : ∃ x, x = sealOf s := ⟨_, rfl⟩
    have hxn : x.size ≤ 602 := by rw [hx, seal_size]; omega
    have hxn1 : 2 ≤ x.size := by rw [hx, seal_size]; omega
    have seal_x : ∀ W, Calls Try.prog 24 #[.string s] W fun e w' => e = .returned (.string x) ∧ Below W.heap.size W w' := fun W => by rw [hx]; exact seal_at s (by omega) W
    have open_x : ∀ W, Calls Try.prog 25 #[.string x] W fun e w' => e = .returned (.tuple #[.string s, .int .i64 0]) ∧ Below W.heap.size W w' := fun W => by
      have := open_is x (by omega) W
      rw [hx, open_seal] at this; rw [hx]; exact this
    have HX := Lib.hid hx
    clear hx
    have kb : ∀ (W : World) (x : ByteArray), (convert 9 26 (.string x)).run Try.prog W = .ok (.slice (some ⟨W.heap.size, 0, none⟩) x.size (grownCap W x.size 0 5)) (Lib.bytesWorld W 5 x) :=
      fun W x => Lib.run_convert_string_bytes W 9 26 5 x Try.underlying9 Try.underlying26 Try.underlying5
    have ks : ∀ (W : World) c, (convert 26 9 (.slice (some ⟨W.heap.size, 0, none⟩) x.size c)).run Try.prog (Lib.bytesWorld W 5 x) = .ok (.string x) (Lib.bytesWorld W 5 x) := fun W c => by
      have := string_row (P := Try.prog) (cap := c) (row_bytesWorld W 5 x) (ints_length x) 26 5 9 Try.underlying26 Try.underlying5 Try.underlying9
      rw [strOfNums_ints] at this
      exact this
    obtain ⟨F, hF⟩ : ∃ F : Nat, F = a % (8 * x.size) := ⟨_, rfl⟩
    have hFI : ((a : Int) % (8 * (x.size : Int))) = (F : Int) := by rw [hF, Int.natCast_emod, Int.natCast_mul]; rfl
    have hFl : F < 8 * x.size := by rw [hF]; exact Nat.mod_lt _ (by omega)
    clear hF
    go_enter Try.func8, Try.ntmps8
    go_wp2_with (first | (go_at_call 14; refine (on_base (by assumption) (awake_is _)).mono ?_; rintro e w1 ⟨rfl, hb1⟩) | (go_at_call 24; refine (on_base (by assumption) (seal_x _)).mono ?_; rintro e w2 ⟨rfl, hb2⟩) | (go_at_call 25; refine (open_x _).mono ?_; rintro e w3 ⟨rfl, hb3⟩))
    have hr0 : Row w3 w2.heap.size .u8 (casts (flips (bs x) F ch 0)) := (row_bytesWorld w2 5 x).below hb3
    have hW0 : Below w.heap.size w w3 := (below_bytesWorld hb2 hb2.size 5 x).trans (hb3.mono (by rw [Lib.bytesWorld_size]; have := hb2.size; omega))
    have hwb : w.heap.size ≤ w2.heap.size := hb2.size
    obtain ⟨bb, hbb⟩ : ∃ b, b = w2.heap.size := ⟨_, rfl⟩
    rw [← hbb] at hr0 hwb
    rw [← hbb]
    have HB := Lib.hid hbb
    have hln : 8 * x.size ≤ 4816 := by omega
    clear hbb hb2 hb3
    go_loopw [11, 12] (fun t i wr => ∃ k : Nat, k ≤ 16 ∧ i = .int .i64 k ∧ t = .bool (touched (8 * x.size) F ch k) ∧ Row wr bb .u8 (casts (flips (bs x) F ch k)) ∧ Below w.heap.size w wr) (fun _ i _ => 16 - (intOf i).toNat)
    case atStart => exact ⟨0, by omega, rfl, rfl, hr0, hW0⟩
    case round =>
      clear hr0 hW0
      obtain ⟨k, hk, rfl, rfl, hr, hb⟩ := hrel
      by_cases hlt : k < 16
      · have hT := bit_u16 ch k (by omega)
        by_cases ht : ch.testBit k = true
        · rw [ht] at hT
          by_cases hin : F + k < 8 * x.size
          · have hlen : (flips (bs x) F ch k).length = x.size := by rw [flips_length, bs_length]
            obtain ⟨c0, hc0⟩ : ∃ c0, c0 = (flips (bs x) F ch k).getD ((F + k) / 8) 0 := ⟨_, rfl⟩
            have hc1 : c0 < 256 := by
              rw [hc0, List.getD_eq_getElem?_getD, List.getElem?_eq_getElem (by omega)]
              exact flips_lt _ _ _ _ (bs_lt x) _ (List.getElem_mem _)
            have hcell : wr.cell? ⟨bb, (F + k) / 8, none⟩ = some (.int .u8 (c0 : Int)) := by
              rw [hr.at_ _ (by rw [casts_length]; omega), hc0]
              simp [casts, List.getD_eq_getElem?_getD]
              cases (flips (bs x) F ch k)[(F + k) / 8]? <;> rfl
            have hfree : wr.frozen? ⟨bb, (F + k) / 8, none⟩ = false := hr.free _ (by rw [casts_length]; omega)
            have hidx : (F + k) / 8 < x.size := by omega
            have HC0 := Lib.hid hc0
            have HLE := Lib.hid hlen
            have HR := Lib.hid hr
            clear hr hc0 hlen
            go_wp2
            go_region
            go_wp2
            go_roundw
            case rel =>
              have hp := pow_shift ((F + k) % 8) (by omega)
              have hx : bits .xor .u8 (c0 : Int) ((2 ^ (7 - (F + k) % 8) : Nat) : Int) = ((c0 ^^^ 2 ^ (7 - (F + k) % 8) : Nat) : Int) := u8_xor_nat _ _ hc1 (Nat.pow_lt_pow_right (n := 8) (by decide) (by omega))
              have hcc : (ch.testBit k && decide (F + k < 8 * x.size)) = true := by simp [ht, hin]
              have hcc' : (ch.testBit k && decide (F + k < 8 * (bs x).length)) = true := by rw [bs_length]; exact hcc
              refine ⟨k + 1, by omega, by go_num, by unfold touched; rw [if_pos hcc], ?_, (hb.setCell (by simpa using hwb) _).drew⟩
              have hset : casts (flips (bs x) F ch (k + 1)) = (casts (flips (bs x) F ch k)).set ((F + k) / 8) ((c0 ^^^ 2 ^ (7 - (F + k) % 8) : Nat) : Int) := by
                conv => lhs; unfold flips
                rw [if_pos hcc', flipBit, ← HC0.out]
                simp [casts, List.map_set]
              rw [hset]
              have hfin := (HR.out.set ((F + k) / 8) ((c0 ^^^ 2 ^ (7 - (F + k) % 8) : Nat) : Int) (by rw [casts_length, HLE.out]; omega)).drew
              rw [← hx, ← hp] at hfin
              rw [← hx, ← hp]
              exact hfin
            case measure => simp [intOf]; omega
          · go_wp2
            go_roundw
            case rel =>
              have hcc : ¬ (ch.testBit k && decide (F + k < 8 * x.size)) = true := by simp [hin]
              have hcc' : ¬ (ch.testBit k && decide (F + k < 8 * (bs x).length)) = true := by rw [bs_length]; exact hcc
              exact ⟨k + 1, by omega, by go_num, by conv => rhs; unfold touched; rw [if_neg hcc], by unfold flips; rw [if_neg hcc']; exact hr, hb⟩
            case measure => simp [intOf]; omega
        · rw [Bool.not_eq_true] at ht
          rw [ht] at hT
          go_wp2
          go_roundw
          case rel =>
            have hcc : ∀ n, ¬ (ch.testBit k && decide (F + k < n)) = true := fun n => by simp [ht]
            exact ⟨k + 1, by omega, by go_num, by conv => rhs; unfold touched; rw [if_neg (hcc _)], by unfold flips; rw [if_neg (hcc _)]; exact hr, hb⟩
          case measure => simp [intOf]; omega
      · obtain rfl : k = 16 := by omega
        have ho := open_burst s F ch (by rw [← seal_size, ← HX.out]; exact hFl)
        rw [← seal_size, ← HX.out] at ho
        have kA : ∀ c, (convert 26 9 (.slice (some ⟨bb, 0, none⟩) x.size c)).run Try.prog wr = .ok (.string (burst s F ch)) wr := fun c => by
          have := string_row (P := Try.prog) (cap := c) hr (by rw [casts_length, flips_length, bs_length]) 26 5 9 Try.underlying26 Try.underlying5 Try.underlying9
          rw [this]; unfold burst casts; rw [← HX.out]
        have hbz : (burst s F ch).size ≤ 602 := by rw [burst_size]; omega
        clear hr
        cases htt : touched (8 * x.size) F ch 16 with
        | true =>
          rw [htt, if_pos rfl] at ho
          have open_b : ∀ W, Calls Try.prog 25 #[.string (burst s F ch)] W fun e w' => e = .returned (.tuple #[.string ⟨#[]⟩, .int .i64 4]) ∧ Below W.heap.size W w' := fun W => by
            have := open_is (burst s F ch) (by omega) W
            rw [ho] at this; exact this
          clear ho
          go_wp2_with (go_at_call 25; refine (on_base (by assumption) (open_b _)).mono ?_; rintro e w4 ⟨rfl, hb4⟩)
          go_ret
          exact ⟨rfl, by assumption⟩
        | false =>
          rw [htt, if_neg (by simp)] at ho
          have open_b : ∀ W, Calls Try.prog 25 #[.string (burst s F ch)] W fun e w' => e = .returned (.tuple #[.string s, .int .i64 0]) ∧ Below W.heap.size W w' := fun W => by
            have := open_is (burst s F ch) (by omega) W
            rw [ho] at this; exact this
          clear ho
          go_wp2_with (go_at_call 25; refine (on_base (by assumption) (open_b _)).mono ?_; rintro e w4 ⟨rfl, hb4⟩)
          go_ret
          exact ⟨rfl, by assumption⟩
  · go_enter Try.func8, Try.ntmps8
    go_wp2_with (go_at_call 14; refine (on_base (by assumption) (awake_is _)).mono ?_; rintro e w1 ⟨rfl, hb1⟩)
    go_ret
    exact ⟨rfl, by assumption⟩
end Go.Proofs.Ythhfogpkaeminaa
