/- The walks of package crc: what each function answers, and what becomes of the world. -/
import Derived.Test.YthhfogpkaeminaaProg
import Derived.Test.YthhfogpkaeminaaCom
import Derived.Test.YthhfogpkaeminaaCrcPure
import Derived.Deep.DeepFit
namespace Go.Proofs.Ythhfogpkaeminaa
open Go.RowKit

theorem toNat_shl1 (v : BitVec 16) : (v <<< 1).toNat = v.toNat * 2 % 65536 := by
  rw [BitVec.toNat_shiftLeft, Nat.shiftLeft_eq]
theorem reg_top (v : BitVec 16) (b : Bool) : (bits .xor .i64 ((v.toNat : Int) / 32768) (if b then 1 else 0) == 1) = (v.msb ^^ b) := by
  have hv := v.isLt
  have e : ((v.toNat : Int) / 32768) = ((v.toNat / 32768 : Nat) : Int) := by omega
  have e2 : (if b then (1 : Int) else 0) = (((if b then 1 else 0) : Nat) : Int) := by cases b <;> rfl
  rw [e, e2, xor_i64 _ _ (by omega) (by cases b <;> simp)]
  have hm : v.msb = decide (v.toNat / 32768 = 1) := by rw [BitVec.msb_eq_decide]; simp; omega
  have h01 : v.toNat / 32768 = 0 ∨ v.toNat / 32768 = 1 := by omega
  rw [hm]
  rcases h01 with h | h <;> rw [h] <;> cases b <;> rfl
theorem reg_low (v : BitVec 16) : bits .and .i64 ((v.toNat : Int) * 2) 65535 = ((v <<< 1).toNat : Int) := by
  rw [and_65535_i64, toNat_shl1]; omega
theorem reg_poly (x : BitVec 16) : bits .xor .i64 (x.toNat : Int) 4129 = ((x ^^^ 0x1021#16).toNat : Int) := by
  have := x.isLt
  rw [show (4129 : Int) = ((4129 : Nat) : Int) from rfl, xor_i64 _ _ (by omega) (by omega), BitVec.toNat_xor]; rfl

theorem bit_any (v : BitVec 16) (x : Int) (b : Bool) (hx : x = if b then 1 else 0) (k : Nat) (w : World) (hc : w.cell? ⟨k, 0, none⟩ = some (.int .i64 v.toNat)) (hf : w.frozen? ⟨k, 0, none⟩ = false) :
    Calls Try.prog 33 #[.pointer (some ⟨k, 0, none⟩), .int .i64 x] w fun e w' => e = .returned (.tuple #[]) ∧
      w'.cell? ⟨k, 0, none⟩ = some (.int .i64 (Crc.step v b).toNat) ∧ w'.frozen? ⟨k, 0, none⟩ = false ∧ w.grownBy w' (some k) := by
  have hv := v.isLt
  have hg1 : ∀ y, w.grownBy (w.setCell ⟨k, 0, none⟩ y) (some k) := fun y => gb_setCell _ _ _
  have hT := reg_top v b
  rw [← hx] at hT
  cases hb : (v.msb ^^ b) with
  | true =>
    have hT' : (bits .xor .i64 ((v.toNat : Int) / 32768) x == 1) = true := by rw [hT, hb]
    have hS : Hid (Crc.step v b = (v <<< 1) ^^^ 0x1021#16) := by unfold Crc.step; rw [hb]; rfl
    clear hT hb
    have HX := Lib.hid hx
    clear hx
    go_enter Try.func33, Try.ntmps33
    go_wp2
    go_end0
    refine ⟨rfl, ?_, by simpa using hf, ?_⟩
    · rw [World.cell?_setCell_same' _ _ _ (by rw [World.cell?_setCell_same' _ _ _ (by rw [hc]; rfl)]; rfl), reg_low, reg_poly, hS.out]
    · exact gb_trans (hg1 _) (gb_setCell _ _ _)
  | false =>
    have hT' : (bits .xor .i64 ((v.toNat : Int) / 32768) x == 1) = false := by rw [hT, hb]
    have hS : Hid (Crc.step v b = (v <<< 1)) := by unfold Crc.step; rw [hb]; simp [Hid]
    clear hT hb
    have HX := Lib.hid hx
    clear hx
    go_enter Try.func33, Try.ntmps33
    go_wp2
    go_end0
    refine ⟨rfl, ?_, by simpa using hf, hg1 _⟩
    rw [World.cell?_setCell_same' _ _ _ (by rw [hc]; rfl), reg_low, hS.out]

theorem bitsOf_get (c j : Nat) (hj : j < 8) : (Crc.bitsOf c).take (j + 1) = (Crc.bitsOf c).take j ++ [c.testBit (7 - j)] := by
  have : j = 0 ∨ j = 1 ∨ j = 2 ∨ j = 3 ∨ j = 4 ∨ j = 5 ∨ j = 6 ∨ j = 7 := by omega
  rcases this with rfl | rfl | rfl | rfl | rfl | rfl | rfl | rfl <;> rfl
theorem reg_start (r : Int) : bits .and .i64 r 65535 = ((BitVec.ofInt 16 r).toNat : Int) := by
  rw [and_65535_i64, BitVec.toNat_ofInt]; omega

set_option maxHeartbeats 400000 in
set_option maxRecDepth 100000 in
theorem more_any (r : Int) (s : ByteArray) (hs : s.size ≤ 9223372036854775807) (w : World) :
    Calls Try.prog 15 #[.int .i64 r, .string s] w fun e w' => e = .returned (.int .i64 (Crc.more (BitVec.ofInt 16 r) (bs s)).toNat) ∧ Below w.heap.size w w' := by
  have hmf : ∀ (fn : Fn) (first cap : Array Value) (w : World), (Instr.makeFunc fn first cap).run Try.prog w = .ok (.func fn first cap) w := fun _ _ _ _ => rfl
  have HR := Lib.hid (reg_start r)
  go_enter Try.func15, Try.ntmps15
  go_wp2
  go_loopw [17] (fun i wr => ∃ k : Nat, k ≤ s.size ∧ i = .int .i64 k ∧ wr.cell? ⟨w.heap.size, 0, none⟩ = some (.int .i64 (Crc.more (BitVec.ofInt 16 r) ((bs s).take k)).toNat) ∧ wr.frozen? ⟨w.heap.size, 0, none⟩ = false ∧ w.heap.size < wr.heap.size ∧ Below w.heap.size w wr)
    (fun i _ => s.size - (intOf i).toNat)
  case atStart =>
    refine ⟨0, Nat.zero_le _, rfl, ?_, by simp, by simp, (Below.refl _ _).alloc (Nat.le_refl _) _⟩
    rw [HR.out]; simp [Crc.more, Crc.bitsAll, Crc.run]
  case round =>
    obtain ⟨k, hk, rfl, hc, hf, hz, hb⟩ := hrel
    by_cases hlt : k < s.size
    · obtain ⟨v, hv⟩ : ∃ v, v = Crc.more (BitVec.ofInt 16 r) ((bs s).take k) := ⟨_, rfl⟩
      have HV := Lib.hid hv
      rw [← hv] at hc
      clear hv
      have HTK := Lib.hid (bs_take_succ s k hlt)
      obtain ⟨wo, rfl⟩ : ∃ wo : World, wo = wr := ⟨_, rfl⟩
      go_wp2
      go_loopw [8] (fun n wi => ∃ j : Nat, j ≤ 8 ∧ n = .int .i64 (7 - (j : Int)) ∧ wi.cell? ⟨w.heap.size, 0, none⟩ = some (.int .i64 (Crc.run v ((Crc.bitsOf (s[k]'hlt).toNat).take j)).toNat) ∧ wi.frozen? ⟨w.heap.size, 0, none⟩ = false ∧ w.heap.size < wi.heap.size ∧ Below w.heap.size w wi)
        (fun n _ => (intOf n + 1).toNat)
      case atStart => exact ⟨0, by omega, rfl, hc, hf, hz, hb⟩
      case round =>
        clear hc hf hz hb
        obtain ⟨j, hj, rfl, hc, hf, hz, hb⟩ := hrel
        by_cases hj8 : j < 8
        · have HT := Lib.hid (bitsOf_get (s[k]'hlt).toNat j hj8)
          go_wp2_with (go_at_call 33; refine (bit_any _ _ _ (bit_u8 _ _) _ _ (by assumption) (by assumption)).mono ?_; rintro e w1 ⟨rfl, hc1, hf1, hg1⟩)
          go_roundw
          case rel => exact ⟨j + 1, by omega, by go_num, by rw [HT.out, Crc.run_append]; exact hc1, hf1, Nat.lt_of_lt_of_le hz hg1.size, below_gb hb hg1 (by omega) (Nat.le_refl _)⟩
          case measure => simp [intOf]; omega
        · obtain rfl : j = 8 := by omega
          have hc' : wr.cell? ⟨w.heap.size, 0, none⟩ = some (.int .i64 (Crc.more (BitVec.ofInt 16 r) ((bs s).take (k + 1))).toNat) := by
            rw [hc, HTK.out, Crc.more_append, ← HV.out]
            simp [Crc.more, Crc.bitsAll, Crc.bitsOf]
          clear hc
          go_wp2
          go_roundw
          case rel => exact ⟨k + 1, by omega, by go_num, hc', hf, hz, hb⟩
          case measure => simp [intOf]; omega
    · obtain rfl : k = s.size := by omega
      rw [List.take_of_length_le (by rw [bs_length]; omega)] at hc
      go_wp2
      go_ret
      exact ⟨rfl, hb⟩

/-- What More answers. -/
def crcMore (r : Int) (s : ByteArray) : Int := ((Crc.more (BitVec.ofInt 16 r) (bs s)).toNat : Int)
/-- What Sum answers. -/
def crcSum (s : ByteArray) : Int := crcMore 65535 s
theorem more_is (r : Int) (s : ByteArray) (hs : s.size ≤ 9223372036854775807) (w : World) :
    Calls Try.prog 15 #[.int .i64 r, .string s] w fun e w' => e = .returned (.int .i64 (crcMore r s)) ∧ Below w.heap.size w w' := more_any r s hs w
theorem sum_is (s : ByteArray) (hs : s.size ≤ 9223372036854775807) (w : World) :
    Calls Try.prog 16 #[.string s] w fun e w' => e = .returned (.int .i64 (crcSum s)) ∧ Below w.heap.size w w' := by
  go_enter Try.func16, Try.ntmps16
  go_wp2_with (go_at_call 15; refine (more_is _ _ hs _).mono ?_; rintro e w1 ⟨rfl, hb1⟩)
  go_ret
  exact ⟨rfl, hb1⟩
theorem sum_known : crcSum ⟨#[49, 50, 51, 52, 53, 54, 55, 56, 57]⟩ = 10673 := by decide +kernel
theorem awake_is (w : World) : Calls Try.prog 14 #[] w fun e w' => e = .returned (.bool true) ∧ Below w.heap.size w w' := by
  have h := sum_known
  go_enter Try.func14, Try.ntmps14
  go_wp2_with (go_at_call 16; refine (sum_is _ (by decide) _).mono ?_; rintro e w1 ⟨rfl, hb1⟩)
  go_ret
  exact ⟨rfl, hb1⟩
theorem crcMore_sum (r : Int) (s t : ByteArray) : crcMore (crcMore r s) t = crcMore r (s ++ t) := by
  unfold crcMore
  rw [bs_append, Crc.more_append]
  have e : ∀ v : BitVec 16, BitVec.ofInt 16 (v.toNat : Int) = v := by
    intro v
    apply BitVec.eq_of_toNat_eq
    have := v.isLt
    rw [BitVec.ofInt_natCast, BitVec.toNat_ofNat]
    omega
  rw [e]
end Go.Proofs.Ythhfogpkaeminaa
