/- The walks of the document's All and Number. -/
import Derived.Test.YthhfogpkaeminaaBitsZero
namespace Go.Proofs.Ythhfogpkaeminaa
open Go.RowKit Go.Sort
set_option maxRecDepth 100000 in
set_option maxHeartbeats 1000000 in
theorem all_is (s : ByteArray) (hs : s.size ≤ 100000) (w : World) :
    Calls Try.prog 31 #[.string s] w fun e w' => ∃ v, e = .returned v ∧ Own w' 3 .i64 v (bools (textBits s)) ∧ Below w.heap.size w w' ∧ (∀ j ∈ foot v, w.heap.size ≤ j) ∧ (s.size = 0 → v = .slice none 0 0) := by
  go_enter Try.func31, Try.ntmps31
  go_wp2
  go_loopw [3, 4] (fun v i wr => ∃ k : Nat, k ≤ s.size ∧ i = .int .i64 k ∧ Own wr 3 .i64 v (bools (byteBits ((bs s).take k))) ∧ Below w.heap.size w wr ∧ (∀ j ∈ foot v, w.heap.size ≤ j) ∧ (k = 0 → v = .slice none 0 0)) (fun _ i _ => s.size - (intOf i).toNat)
  case atStart => exact ⟨0, Nat.zero_le _, rfl, by simpa [byteBits, bools] using Own.nil w 3 .i64, Below.refl _ _, by simp [foot, Value.ownBlock], fun _ => rfl⟩
  case round =>
    obtain ⟨k, hk, rfl, hO, hb, hF, hnil⟩ := hrel
    by_cases hlt : k < s.size
    · have hbits := fun W => refBits_is (s[k]'hlt).toNat 8 (by omega) (by have := (s[k]'hlt).toNat_lt; omega) W
      have hbits' : ∀ W, Calls Try.prog 22 #[.int .i64 (wrap64 ((s[k]'hlt).toNat : Int)), .int .i64 8] W fun e w' => ∃ v, e = .returned v ∧ Own w' 3 .i64 v (bools (Bits.bitsN (s[k]'hlt).toNat 8)) ∧ Below W.heap.size W w' ∧ ∀ j ∈ foot v, W.heap.size ≤ j := fun W => by
        have hw : wrap64 ((s[k]'hlt).toNat : Int) = ((s[k]'hlt).toNat : Int) := by have := (s[k]'hlt).toNat_lt; unfold wrap64; omega
        rw [hw]; exact hbits W
      have hbnd : Hid (((bools (byteBits ((bs s).take k))).length + (bools (Bits.bitsN (s[k]'hlt).toNat 8)).length) * 8 ≤ 140737488355328) := by
        show _ ≤ _
        rw [bools_length, bools_length, Bits.bitsN_length, byteBits_length, List.length_take]; omega
      have hnext : Hid (bools (byteBits ((bs s).take (k + 1))) = bools (byteBits ((bs s).take k)) ++ bools (Bits.bitsN (s[k]'hlt).toNat 8)) := by
        show _ = _
        rw [bs_take_succ s k hlt, byteBits_snoc, bools_append]
      have HO := Lib.hid hO
      have HF := Lib.hid hF
      clear hbits hO hF hnil
      go_wp2_with (first | (go_at_call 22; (with_reducible refine (hbits' _).mono ?_); rintro e w3 ⟨v3, rfl, ho3, hb3, hf3⟩; have HO3 := Lib.hid (HO.out.below hb3)) | (at_builtin; refine append_row rfl _ _ 38 3 .i64 8 rfl Try.underlying38 info3 (by decide) u3 v3 (bools (byteBits ((bs s).take k))) (bools (Bits.bitsN (s[k]'hlt).toNat 8)) rfl rfl HO3.out ho3 hbnd.out ?_; intro v5 w5 ho5 hk5 hf5))
      go_roundw
      case rel =>
        refine ⟨k + 1, by omega, by go_num, by rw [hnext.out]; exact ho5, hk5.below (hb.trans (hb3.mono hb.size)) HF.out, ?_, fun h => by omega⟩
        intro j hj
        rcases hf5 j hj with h | h
        · exact HF.out j h
        · exact Nat.le_trans (Nat.le_trans hb.size hb3.size) h
      case measure => simp [intOf]; omega
    · obtain rfl : k = s.size := by omega
      rw [List.take_of_length_le (by rw [bs_length]; omega)] at hO
      go_wp2
      go_ret
      exact ⟨_, rfl, hO, hb, hF, hnil⟩
set_option maxRecDepth 100000 in
set_option maxHeartbeats 1000000 in
/-- Number, of up to 56 bits of a row, from place p on. -/
theorem number_is (L : List Bool) (p N : Nat) (hN : N ≤ 56) (hp : p + N ≤ L.length) (g cap : Nat) (ad : Option Addr) (w : World) (had : 0 < N → ad = some ⟨g, p, none⟩)
    (hcell : ∀ j, j < L.length → w.cell? ⟨g, j, none⟩ = some (.int .i64 (b2i (L.getD j false)))) :
    Calls Try.prog 32 #[.slice ad N cap] w fun e w' => e = .returned (.int .i64 (Bits.num ((L.drop p).take N) : Nat)) ∧ w = w' := by
  by_cases h0 : 0 < N
  · obtain rfl := had h0
    clear had
    go_enter Try.func32, Try.ntmps32
    go_wp2
    go_loop [3, 4] (fun x i => ∃ j : Nat, j ≤ N ∧ i = .int .i64 j ∧ x = .int .i64 (Bits.num ((L.drop p).take j) : Nat)) (fun _ i => N - (intOf i).toNat)
    case atStart => exact ⟨0, Nat.zero_le _, rfl, rfl⟩
    case round =>
      obtain ⟨j, hj, rfl, rfl⟩ := hrel
      by_cases hlt : j < N
      · have htk := drop_take_succ L p j (by omega)
        have hnl := num_lt ((L.drop p).take j)
        have hnl2 : 2 ^ ((L.drop p).take j).length ≤ 2 ^ 55 := Nat.pow_le_pow_right (by decide) (by rw [List.length_take]; omega)
        obtain ⟨q, hq⟩ : ∃ q, q = Bits.num ((L.drop p).take j) := ⟨_, rfl⟩
        obtain ⟨t, ht⟩ : ∃ t : Nat, t = (L.getD (p + j) false).toNat := ⟨_, rfl⟩
        have ht1 : t ≤ 1 := by rw [ht]; exact Bool.toNat_le _
        have hc : w.cell? ⟨g, p + j, none⟩ = some (.int .i64 (t : Int)) := by
          rw [hcell (p + j) (by omega), ht]
          cases L.getD (p + j) false <;> rfl
        have hq1 : q ≤ 36028797018963968 := by rw [hq]; exact Nat.le_of_lt (Nat.lt_of_lt_of_le hnl hnl2)
        have hn1 : Hid (Bits.num ((L.drop p).take (j + 1)) = 2 * q + t) := by
          show Bits.num ((L.drop p).take (j + 1)) = 2 * q + t
          rw [htk, Bits.num_snoc, hq, ht]
        rw [← hq]
        have HC := Lib.hid hcell
        clear hnl hnl2 htk ht hq hcell
        go_wp2
        go_round
        case rel => exact ⟨j + 1, by omega, by go_num, by rw [hn1.out]; go_num⟩
        case measure => simp [intOf]; omega
      · obtain rfl : j = N := by omega
        clear hcell
        go_wp2
        go_ret
        exact ⟨rfl, rfl⟩
  · obtain rfl : N = 0 := by omega
    clear had hcell
    go_enter Try.func32, Try.ntmps32
    go_wp2
    refine wp_loop_rounds 1 ?_
    rw [rounds_succ]
    go_wp2
    go_ret
    exact ⟨rfl, rfl⟩
end Go.Proofs.Ythhfogpkaeminaa
