/- Small facts on bits, on worlds and on the bytes of a text, for every walk of this seat. -/
import Derived.WalkKit
import Derived.WalkLawsBesides
import Derived.WalkSpells
import Derived.Lib.Hide
namespace Go.Proofs.YthoemgiadadfcaaDoor
open Go.RowKit

theorem wraps_i64 (n : Int) (h₀ : 0 ≤ n) (h₁ : n < 2 ^ 63) : IntKind.i64.wrap n = n := by rw [IntKind.wrap_i64]; omega
theorem and_i64 (a b : Nat) (ha : a < 2 ^ 63) (hb : b < 2 ^ 63) : bits .and .i64 (a : Int) (b : Int) = ((a &&& b : Nat) : Int) := (bits_nat .i64 63 (by decide) wraps_i64 a b ha hb).1
theorem or_i64 (a b : Nat) (ha : a < 2 ^ 63) (hb : b < 2 ^ 63) : bits .or .i64 (a : Int) (b : Int) = ((a ||| b : Nat) : Int) := (bits_nat .i64 63 (by decide) wraps_i64 a b ha hb).2
theorem xor_i64 (a b : Nat) (ha : a < 2 ^ 63) (hb : b < 2 ^ 63) : bits .xor .i64 (a : Int) (b : Int) = ((a ^^^ b : Nat) : Int) := by
  have hx : a ^^^ b < 2 ^ 63 := Nat.xor_lt_two_pow ha hb
  have h1 : (BitVec.ofInt 64 (a : Int)).toNat = a := by
    rw [BitVec.ofInt_natCast, BitVec.toNat_ofNat]; exact Nat.mod_eq_of_lt (by omega)
  have h2 : (BitVec.ofInt 64 (b : Int)).toNat = b := by
    rw [BitVec.ofInt_natCast, BitVec.toNat_ofNat]; exact Nat.mod_eq_of_lt (by omega)
  show IntKind.i64.wrap ((BitVec.ofInt 64 (a : Int) ^^^ BitVec.ofInt 64 (b : Int)).toNat : Int) = _
  rw [BitVec.toNat_xor, h1, h2]
  exact wraps_i64 _ (by omega) (by omega)
theorem and_low_i64 (n : Int) (j : Nat) (hj : j < 63) : bits .and .i64 n ((2 ^ j - 1 : Nat) : Int) = n % ((2 ^ j : Nat) : Int) := by
  have hp : 0 < 2 ^ j := Nat.two_pow_pos j
  have hlt : 2 ^ j ≤ 2 ^ 62 := Nat.pow_le_pow_right (by decide) (by omega)
  have hm : (BitVec.ofInt 64 ((2 ^ j - 1 : Nat) : Int)).toNat = 2 ^ j - 1 := by
    rw [BitVec.ofInt_natCast, BitVec.toNat_ofNat]; exact Nat.mod_eq_of_lt (by omega)
  show IntKind.i64.wrap ((BitVec.ofInt 64 n &&& BitVec.ofInt 64 ((2 ^ j - 1 : Nat) : Int)).toNat : Int) = _
  rw [BitVec.toNat_and, hm, Nat.and_two_pow_sub_one_eq_mod, BitVec.toNat_ofInt]
  have hd : (2 ^ j : Nat) ∣ 2 ^ 64 := Nat.pow_dvd_pow 2 (by omega)
  have hd' : ((2 ^ j : Nat) : Int) ∣ ((2 ^ 64 : Nat) : Int) := Int.natCast_dvd_natCast.2 hd
  have hnn : 0 ≤ n % ((2 ^ 64 : Nat) : Int) := Int.emod_nonneg _ (by decide)
  have e : (((n % ((2 ^ 64 : Nat) : Int)).toNat % 2 ^ j : Nat) : Int) = n % ((2 ^ j : Nat) : Int) := by
    rw [Int.natCast_emod, Int.toNat_of_nonneg hnn, Int.emod_emod_of_dvd _ hd']
  rw [e]
  have h0 : 0 ≤ n % ((2 ^ j : Nat) : Int) := Int.emod_nonneg _ (by omega)
  have h1 : n % ((2 ^ j : Nat) : Int) < ((2 ^ j : Nat) : Int) := Int.emod_lt_of_pos _ (by omega)
  exact wraps_i64 _ h0 (by omega)
theorem and_one_i64 (n : Int) : bits .and .i64 n 1 = n % 2 := by simpa using and_low_i64 n 1 (by decide)
theorem and_65535_i64 (n : Int) : bits .and .i64 n 65535 = n % 65536 := by simpa using and_low_i64 n 16 (by decide)

/-- Bit m of a number, as the walk asks for it. -/
theorem bit_of (c m : Nat) (hm : m < 64) (x : Int) (hx : x = m) : bits .and .i64 ((c : Int) / 2 ^ min x.toNat 64) 1 = if c.testBit m then 1 else 0 := by
  subst hx
  rw [and_one_i64, Int.toNat_natCast, Nat.min_eq_left (by omega)]
  have e : ((c : Int) / 2 ^ m) % 2 = ((c / 2 ^ m % 2 : Nat) : Int) := by
    rw [Int.natCast_emod, Int.natCast_ediv, Int.natCast_pow]; rfl
  rw [e, Nat.testBit_eq_decide_div_mod_eq]
  have := Nat.mod_two_eq_zero_or_one (c / 2 ^ m)
  rcases this with h | h <;> simp [h]

/-- Bit m of a byte, as the walk spells it. -/
theorem bit_u8 (u : UInt8) (m : Nat) : bits .and .i64 (wrap64 (u.toNat : Int) / 2 ^ m) 1 = if u.toNat.testBit m then 1 else 0 := by
  have hu := u.toNat_lt
  have hw : wrap64 (u.toNat : Int) = (u.toNat : Int) := by unfold wrap64; omega
  rw [hw, and_one_i64]
  have e : ((u.toNat : Int) / 2 ^ m) % 2 = ((u.toNat / 2 ^ m % 2 : Nat) : Int) := by
    rw [Int.natCast_emod, Int.natCast_ediv, Int.natCast_pow]; rfl
  rw [e, Nat.testBit_eq_decide_div_mod_eq]
  have := Nat.mod_two_eq_zero_or_one (u.toNat / 2 ^ m)
  rcases this with h | h <;> simp [h]

/-! Worlds: what a call may have turned: new blocks, and one block. -/
theorem gb_setCell (w : World) (a : Addr) (v : Value) : w.grownBy (w.setCell a v) (some a.block) :=
  ⟨rfl, rfl, rfl, by simp, fun k _ hne => Below.heap_setCell _ _ _ _ (fun e => hne (by rw [e]))⟩
theorem gb_trans {w w1 w2 : World} {row : Option Nat} (h : w.grownBy w1 row) (h' : w1.grownBy w2 row) : w.grownBy w2 row :=
  ⟨h'.os.trans h.os, h'.tape.trans h.tape, h'.output.trans h.output, Nat.le_trans h.size h'.size,
    fun k hk hne => (h'.block k (Nat.lt_of_lt_of_le hk h.size) hne).trans (h.block k hk hne)⟩
theorem gb_below {w w1 : World} (h : Below w.heap.size w w1) (row : Option Nat) : w.grownBy w1 row := ⟨h.os, h.tape, h.output, h.size, fun k hk _ => h.block k hk⟩
theorem gb_drew (w : World) (row : Option Nat) : w.grownBy w.drew row := ⟨rfl, rfl, rfl, Nat.le_refl _, fun _ _ _ => rfl⟩
theorem below_gb {B k : Nat} {w w1 w2 : World} (h : Below B w w1) (hg : w1.grownBy w2 (some k)) (hB : B ≤ w1.heap.size) (hk : B ≤ k) : Below B w w2 :=
  h.grown hg hB (fun j e => by cases e; exact hk)

/-- A callee's world, said of the world in which the caller began. -/
theorem on_base {P : Program} {f : FuncId} {args : Array Value} {w w0 : World} {R : Ending → World → Prop} (hb : Below w0.heap.size w0 w)
    (h : Calls P f args w fun e w' => R e w' ∧ Below w.heap.size w w') : Calls P f args w fun e w' => R e w' ∧ Below w0.heap.size w0 w' :=
  h.mono fun _ _ ⟨hr, hk⟩ => ⟨hr, hb.trans (hk.mono hb.size)⟩

/-- A text's bytes, as numbers. -/
def bs (s : ByteArray) : List Nat := s.data.toList.map UInt8.toNat
theorem bs_length (s : ByteArray) : (bs s).length = s.size := by rw [bs, List.length_map, Array.length_toList]; rfl
theorem bs_get (s : ByteArray) (i : Nat) (h : i < s.size) : (bs s)[i]'(by rw [bs_length]; exact h) = (s[i]'h).toNat := by
  simp [bs]; rfl
theorem bs_lt (s : ByteArray) : ∀ c ∈ bs s, c < 256 := by
  intro c hc
  simp only [bs, List.mem_map] at hc
  obtain ⟨u, _, rfl⟩ := hc
  exact u.toNat_lt
theorem bs_take_succ (s : ByteArray) (i : Nat) (h : i < s.size) : (bs s).take (i + 1) = (bs s).take i ++ [(s[i]'h).toNat] := by
  rw [List.take_succ_eq_append_getElem (by rw [bs_length]; exact h), bs_get s i h]
theorem bs_append (s t : ByteArray) : bs (s ++ t) = bs s ++ bs t := by
  simp [bs, ByteArray.data_append]
theorem bs_inj (s t : ByteArray) (h : bs s = bs t) : s = t := by
  have : s.data.toList = t.data.toList := by
    have hi : ∀ (l m : List UInt8), l.map UInt8.toNat = m.map UInt8.toNat → l = m := by
      intro l
      induction l with
      | nil => intro m h; cases m <;> simp_all
      | cons a l ih => intro m h; cases m with
        | nil => simp at h
        | cons b m =>
          simp only [List.map_cons, List.cons.injEq] at h
          rw [ih m h.2, UInt8.toNat_inj.1 h.1]
    exact hi _ _ h
  cases s; cases t; simp at this; rw [this]
end Go.Proofs.YthoemgiadadfcaaDoor
