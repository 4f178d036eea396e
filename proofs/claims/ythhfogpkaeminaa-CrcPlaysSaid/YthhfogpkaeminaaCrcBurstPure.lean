/- What a burst of changed bits does to a sealed text: without any program in sight. -/
import Derived.Test.YthhfogpkaeminaaCrcSeal
namespace Go.Proofs.Ythhfogpkaeminaa
open Go.RowKit

/-- Bit q of bytes, the highest of each first. -/
def bitAt (l : List Nat) (q : Nat) : Bool := (l.getD (q / 8) 0).testBit (7 - q % 8)
theorem bitsAll_eq (l : List Nat) : Crc.bitsAll l = (List.range (8 * l.length)).map (bitAt l) := by
  induction l with
  | nil => rfl
  | cons c l ih =>
    have h1 : Crc.bitsAll (c :: l) = Crc.bitsOf c ++ Crc.bitsAll l := by simp [Crc.bitsAll]
    rw [h1, ih, List.length_cons, show 8 * (l.length + 1) = 8 + 8 * l.length by omega, List.range_add, List.map_append, List.map_map]
    congr 1
    apply List.map_congr_left
    intro q _
    simp only [Function.comp, bitAt]
    rw [show (8 + q) / 8 = q / 8 + 1 by omega, show (8 + q) % 8 = q % 8 by omega]
    rfl
/-- One bit turned. -/
def flipBit (l : List Nat) (p : Nat) : List Nat := l.set (p / 8) (l.getD (p / 8) 0 ^^^ 2 ^ (7 - p % 8))
theorem flipBit_length (l : List Nat) (p : Nat) : (flipBit l p).length = l.length := by simp [flipBit]
theorem bitAt_flip (l : List Nat) (p q : Nat) (hp : p < 8 * l.length) : bitAt (flipBit l p) q = (bitAt l q ^^ decide (q = p)) := by
  unfold bitAt flipBit
  by_cases h : q / 8 = p / 8
  · rw [h]
    have hl : p / 8 < l.length := by omega
    rw [List.getD_eq_getElem?_getD, List.getElem?_set_self hl, Option.getD_some, Nat.testBit_xor, Nat.testBit_two_pow]
    congr 1
    apply decide_eq_decide.2
    constructor
    · intro h'; omega
    · rintro rfl; rfl
  · rw [List.getD_eq_getElem?_getD, List.getElem?_set_ne (fun e => h e.symm), ← List.getD_eq_getElem?_getD]
    have : ¬ q = p := fun e => h (by rw [e])
    simp [this]
/-- The first k of 16 bits turned, where 'ch' says so and there are any. -/
def flips (l : List Nat) (first ch : Nat) : Nat → List Nat
  | 0 => l
  | k + 1 => if ch.testBit k && decide (first + k < 8 * l.length) then flipBit (flips l first ch k) (first + k) else flips l first ch k
theorem flips_length (l : List Nat) (first ch k : Nat) : (flips l first ch k).length = l.length := by
  induction k with
  | zero => rfl
  | succ k ih => unfold flips; split <;> simp [flipBit_length, ih]
def touched (n first ch : Nat) : Nat → Bool
  | 0 => false
  | k + 1 => if ch.testBit k && decide (first + k < n) then true else touched n first ch k
def pat (first ch k q : Nat) : Bool := decide (first ≤ q) && decide (q < first + k) && ch.testBit (q - first)
theorem bitAt_flips (l : List Nat) (first ch k q : Nat) (hq : q < 8 * l.length) : bitAt (flips l first ch k) q = (bitAt l q ^^ pat first ch k q) := by
  induction k with
  | zero =>
    have : pat first ch 0 q = false := by
      have : (decide (first ≤ q) && decide (q < first + 0)) = false := by simp
      unfold pat
      rw [this]; rfl
    rw [this]; simp [flips]
  | succ k ih =>
    have hp : pat first ch (k + 1) q = (pat first ch k q ^^ (decide (q = first + k) && ch.testBit k)) := by
      unfold pat
      by_cases h : q = first + k
      · subst h
        have h1 : first + k < first + (k + 1) := by omega
        have h2 : ¬ first + k < first + k := by omega
        simp [h1]
      · have h1 : (decide (q < first + (k + 1))) = decide (q < first + k) := by apply decide_eq_decide.2; omega
        rw [h1]; simp [h]
    rw [hp]
    unfold flips
    by_cases hc : (ch.testBit k && decide (first + k < 8 * l.length)) = true
    · rw [if_pos hc]
      simp only [Bool.and_eq_true, decide_eq_true_eq] at hc
      rw [bitAt_flip _ _ _ (by rw [flips_length]; exact hc.2), ih, hc.1]
      simp
    · rw [if_neg hc, ih]
      simp only [Bool.and_eq_true, decide_eq_true_eq, not_and] at hc
      by_cases h : q = first + k
      · have : ch.testBit k = false := by
          cases hb : ch.testBit k with
          | false => rfl
          | true => exact absurd (hc hb) (by omega)
        rw [this]; simp
      · simp [h]
theorem bits_flips (l : List Nat) (first ch k : Nat) : Crc.bitsAll (flips l first ch k) = List.zipWith Bool.xor (Crc.bitsAll l) ((List.range (8 * l.length)).map (pat first ch k)) := by
  rw [bitsAll_eq, bitsAll_eq, flips_length]
  apply List.ext_getElem
  · simp
  · intro i h1 h2
    simp at h1
    simp only [List.getElem_map, List.getElem_range, List.getElem_zipWith]
    exact bitAt_flips l first ch k i h1
/-- The window. -/
theorem pat_split (n first ch : Nat) (h : first < n) : (List.range n).map (pat first ch 16) =
    List.replicate first false ++ ((List.range (min 16 (n - first))).map (fun i => ch.testBit i) ++ List.replicate (n - first - min 16 (n - first)) false) := by
  apply List.ext_getElem
  · simp; omega
  · intro i h1 h2
    simp at h1
    simp only [List.getElem_map, List.getElem_range]
    by_cases ha : i < first
    · rw [List.getElem_append_left (by simpa using ha)]
      have : ¬ first ≤ i := by omega
      simp [pat, this]
    · by_cases hb : i < first + min 16 (n - first)
      · rw [List.getElem_append_right (by simp; omega), List.getElem_append_left (by simp; omega)]
        have h3 : first ≤ i := by omega
        have h4 : i < first + 16 := by omega
        simp [pat, h3, h4]
      · rw [List.getElem_append_right (by simp; omega), List.getElem_append_right (by simp; omega)]
        have h4 : ¬ i < first + 16 := by omega
        simp [pat, h4]
theorem touched_iff (n first ch k : Nat) : touched n first ch k = true ↔ ∃ i, i < k ∧ ch.testBit i = true ∧ first + i < n := by
  induction k with
  | zero => simp [touched]
  | succ k ih =>
    unfold touched
    by_cases hc : (ch.testBit k && decide (first + k < n)) = true
    · rw [if_pos hc]
      simp only [Bool.and_eq_true, decide_eq_true_eq] at hc
      exact ⟨fun _ => ⟨k, by omega, hc.1, hc.2⟩, fun _ => rfl⟩
    · rw [if_neg hc, ih]
      simp only [Bool.and_eq_true, decide_eq_true_eq] at hc
      constructor
      · rintro ⟨i, h1, h2⟩; exact ⟨i, by omega, h2⟩
      · rintro ⟨i, h1, h2, h3⟩
        refine ⟨i, ?_, h2, h3⟩
        rcases Nat.lt_or_ge i k with h | h
        · exact h
        · obtain rfl : i = k := by omega
          exact absurd ⟨h2, h3⟩ hc
theorem run_pat (n first ch : Nat) (h : first < n) : touched n first ch 16 = true ↔ Crc.run 0#16 ((List.range n).map (pat first ch 16)) ≠ 0#16 := by
  rw [touched_iff, pat_split n first ch h, ← List.append_assoc]
  constructor
  · rintro ⟨i, h1, h2, h3⟩ h0
    have := Crc.run_burst _ _ _ (by simp; omega) h0
    have h4 : ((List.range (min 16 (n - first))).map (fun i => ch.testBit i))[i]? = some (ch.testBit i) := by
      rw [List.getElem?_map, List.getElem?_range (by omega)]; rfl
    rw [this, List.getElem?_replicate] at h4
    split at h4
    · rw [h2] at h4; simp at h4
    · simp at h4
  · intro h0
    rcases Classical.em (∃ i, i < 16 ∧ ch.testBit i = true ∧ first + i < n) with h1 | h1
    · exact h1
    · exfalso
      apply h0
      have : (List.range (min 16 (n - first))).map (fun i => ch.testBit i) = List.replicate (min 16 (n - first)) false := by
        apply List.ext_getElem
        · simp
        · intro i h2 h3
          simp at h2
          simp only [List.getElem_map, List.getElem_range, List.getElem_replicate]
          cases hb : ch.testBit i with
          | false => rfl
          | true => exact absurd ⟨i, by omega, hb, by omega⟩ h1
      rw [this, Crc.run_append, Crc.run_append, Crc.run_zeros_zero, Crc.run_zeros_zero, Crc.run_zeros_zero]

theorem top_bit (l : List Bool) : ∀ i, i < 16 → l.length ≤ 16 → (Crc.top l).getLsbD i = l.getD (15 - i) false := by
  induction l with
  | nil => intro i _ _; simp [Crc.top]
  | cons b l ih =>
    intro i hi hl
    simp only [List.length_cons] at hl
    rw [Crc.top, BitVec.getLsbD_xor, BitVec.getLsbD_ushiftRight]
    by_cases h : i = 15
    · subst h
      have : (Crc.top l).getLsbD (1 + 15) = false := BitVec.getLsbD_of_ge _ _ (by omega)
      rw [this]
      cases b <;> simp
    · have h8 : (0x8000#16).getLsbD i = false := by
        have : ∀ i : Fin 15, (0x8000#16).getLsbD i.1 = false := by decide
        exact this ⟨i, by omega⟩
      rw [show 1 + i = i + 1 by omega, ih (i + 1) (by omega) (by omega), show 15 - i = (15 - (i + 1)) + 1 by omega, List.getD_cons_succ]
      cases b <;> simp [h8]
theorem top_two (a b : Nat) (ha : a < 256) (hb : b < 256) : Crc.top (Crc.bitsOf a ++ Crc.bitsOf b) = BitVec.ofNat 16 (256 * a + b) := by
  apply BitVec.eq_of_getLsbD_eq
  intro i hi
  rw [top_bit _ i hi (by simp [Crc.bitsOf]), BitVec.getLsbD_ofNat, show 256 * a + b = 2 ^ 8 * a + b from rfl, Nat.testBit_two_pow_mul_add _ hb]
  have : i = 0 ∨ i = 1 ∨ i = 2 ∨ i = 3 ∨ i = 4 ∨ i = 5 ∨ i = 6 ∨ i = 7 ∨ i = 8 ∨ i = 9 ∨ i = 10 ∨ i = 11 ∨ i = 12 ∨ i = 13 ∨ i = 14 ∨ i = 15 := by omega
  rcases this with rfl | rfl | rfl | rfl | rfl | rfl | rfl | rfl | rfl | rfl | rfl | rfl | rfl | rfl | rfl | rfl <;> simp [Crc.bitsOf]
theorem bs_two (x : Int) (h0 : 0 ≤ x) (h1 : x < 65536) : bs (tail x) = [(x / 256).toNat, (x % 256).toNat] := by
  unfold tail two
  have := bs_strOfNums [(x / 256).toNat, (x % 256).toNat] (by
    intro y hy
    simp at hy
    omega)
  rw [← this]
  congr 2
  simp
  omega
theorem bs_extract (s : ByteArray) (i : Nat) : bs (s.extract 0 i) = (bs s).take i := by
  simp [bs, ByteArray.data_extract, List.map_take]
/-- Sealed texts are those whose bits leave the register at 0. -/
theorem seal_iff (x : ByteArray) (hx : 2 ≤ x.size) : sealOf (body x) = x ↔ Crc.run 0xffff#16 (Crc.bitsAll (bs x)) = 0#16 := by
  have hlen : (bs x).length = x.size := bs_length x
  obtain ⟨a, ha⟩ : ∃ a, a = (bs x)[x.size - 2]'(by omega) := ⟨_, rfl⟩
  obtain ⟨b, hb⟩ : ∃ b, b = (bs x)[x.size - 1]'(by omega) := ⟨_, rfl⟩
  have hab : a < 256 := by rw [ha]; exact bs_lt x _ (List.getElem_mem _)
  have hbb : b < 256 := by rw [hb]; exact bs_lt x _ (List.getElem_mem _)
  have hsplit : bs x = bs (body x) ++ [a, b] := by
    unfold body
    rw [bs_extract]
    have h1 := List.take_append_drop (x.size - 2) (bs x)
    have h2 : (bs x).drop (x.size - 2) = [a, b] := by
      rw [List.drop_eq_getElem_cons (by omega), ← ha, List.drop_eq_getElem_cons (by omega)]
      have e : x.size - 2 + 1 = x.size - 1 := by omega
      simp only [e, ← hb]
      rw [List.drop_eq_nil_of_le (by omega)]
    rw [h2] at h1
    exact h1.symm
  obtain ⟨r, hr⟩ : ∃ r, r = Crc.more (BitVec.ofInt 16 65535) (bs (body x)) := ⟨_, rfl⟩
  have hsum : crcSum (body x) = (r.toNat : Int) := by unfold crcSum crcMore; rw [← hr]
  have hlt := r.isLt
  have h1 : sealOf (body x) = x ↔ r.toNat = 256 * a + b := by
    constructor
    · intro h
      have h2 := congrArg bs h
      rw [sealOf, bs_append, hsum, bs_two _ (by omega) (by omega), hsplit] at h2
      have h3 := List.append_cancel_left h2
      simp only [List.cons.injEq, and_true] at h3
      omega
    · intro h
      apply bs_inj
      rw [sealOf, bs_append, hsum, bs_two _ (by omega) (by omega)]
      conv => rhs; rw [hsplit]
      congr 1
      simp only [List.cons.injEq, and_true]
      omega
  rw [h1]
  have h2 : Crc.run 0xffff#16 (Crc.bitsAll (bs x)) = Crc.run (r ^^^ BitVec.ofNat 16 (256 * a + b)) (List.replicate 16 false) := by
    rw [hsplit, Crc.bitsAll_append, Crc.run_append, ← top_two a b hab hbb]
    have e : Crc.bitsAll [a, b] = Crc.bitsOf a ++ Crc.bitsOf b := by simp [Crc.bitsAll]
    have e2 : Crc.run 0xffff#16 (Crc.bitsAll (bs (body x))) = r := by rw [hr]; rfl
    rw [e, e2]
    exact Crc.run_top _ _ (by simp [Crc.bitsOf])
  rw [h2]
  constructor
  · intro h
    have : r = BitVec.ofNat 16 (256 * a + b) := by
      apply BitVec.eq_of_toNat_eq
      rw [BitVec.toNat_ofNat, h]
      omega
    rw [← this, BitVec.xor_self]
    exact Crc.run_zeros_zero 16
  · intro h
    have h3 := Crc.run_zeros_inj _ _ h
    have h4 : r = BitVec.ofNat 16 (256 * a + b) := by
      have h5 := congrArg (fun z => z ^^^ BitVec.ofNat 16 (256 * a + b)) h3
      simpa [BitVec.xor_assoc] using h5
    rw [h4, BitVec.toNat_ofNat]
    omega
theorem body_seal (s : ByteArray) : body (sealOf s) = s := by
  apply bs_inj
  unfold body sealOf
  rw [bs_extract, bs_append]
  have h2 : (s ++ tail (crcSum s)).size - 2 = s.size := by
    rw [ByteArray.size_append]; unfold tail; rw [two_size]; omega
  rw [h2, List.take_append_of_le_length (by rw [bs_length]; omega), List.take_of_length_le (by rw [bs_length]; omega)]
theorem seal_size (s : ByteArray) : (sealOf s).size = s.size + 2 := by unfold sealOf tail; rw [ByteArray.size_append, two_size]
/-- What is sealed is opened. -/
theorem open_seal (s : ByteArray) : openOf (sealOf s) = (s, 0) := by
  unfold openOf
  rw [if_neg (by rw [seal_size]; omega), body_seal, if_pos rfl]
theorem flips_lt (l : List Nat) (first ch k : Nat) (h : ∀ x ∈ l, x < 256) : ∀ x ∈ flips l first ch k, x < 256 := by
  induction k with
  | zero => exact h
  | succ k ih =>
    unfold flips
    split
    · intro x hx
      unfold flipBit at hx
      rcases List.mem_or_eq_of_mem_set hx with h1 | h1
      · exact ih x h1
      · rw [h1]
        apply Nat.xor_lt_two_pow (n := 8)
        · rw [List.getD_eq_getElem?_getD]
          cases hg : (flips l first ch k)[(first + k) / 8]? with
          | none => simp
          | some y => exact ih y (List.mem_of_getElem? hg)
        · exact Nat.pow_lt_pow_right (by decide) (by omega)
    · exact ih
/-- The sealed text with its bits turned. -/
def burst (s : ByteArray) (first ch : Nat) : ByteArray := strOfNums ((flips (bs (sealOf s)) first ch 16).map Nat.cast)
theorem bs_burst (s : ByteArray) (first ch : Nat) : bs (burst s first ch) = flips (bs (sealOf s)) first ch 16 := bs_strOfNums _ (flips_lt _ _ _ _ (bs_lt _))
theorem burst_size (s : ByteArray) (first ch : Nat) : (burst s first ch).size = s.size + 2 := by
  rw [← bs_length, bs_burst, flips_length, bs_length, seal_size]
theorem open_burst (s : ByteArray) (first ch : Nat) (h : first < 8 * (s.size + 2)) :
    openOf (burst s first ch) = if touched (8 * (s.size + 2)) first ch 16 then (⟨#[]⟩, 4) else (s, 0) := by
  have hl : (bs (sealOf s)).length = s.size + 2 := by rw [bs_length, seal_size]
  have h0 : Crc.run 0xffff#16 (Crc.bitsAll (bs (sealOf s))) = 0#16 := (seal_iff _ (by rw [seal_size]; omega)).1 (by rw [body_seal])
  have h1 : Crc.run 0xffff#16 (Crc.bitsAll (bs (burst s first ch))) = Crc.run 0#16 ((List.range (8 * (s.size + 2))).map (pat first ch 16)) := by
    rw [bs_burst, bits_flips, hl]
    have := Crc.run_lin (Crc.bitsAll (bs (sealOf s))) ((List.range (8 * (s.size + 2))).map (pat first ch 16)) 0xffff#16 0#16 (by rw [Crc.bitsAll_length, hl]; simp)
    rw [h0] at this
    simpa using this
  have ht := run_pat (8 * (s.size + 2)) first ch h
  by_cases hc : touched (8 * (s.size + 2)) first ch 16 = true
  · rw [if_pos hc]
    unfold openOf
    rw [if_neg (by rw [burst_size]; omega), if_neg]
    intro hs
    have := (seal_iff _ (by rw [burst_size]; omega)).1 hs
    rw [h1] at this
    exact (ht.1 hc) this
  · rw [if_neg hc]
    have hfl : flips (bs (sealOf s)) first ch 16 = bs (sealOf s) := by
      have hn : ∀ k, k ≤ 16 → flips (bs (sealOf s)) first ch k = bs (sealOf s) := by
        intro k
        induction k with
        | zero => intro _; rfl
        | succ k ih =>
          intro hk
          unfold flips
          rw [if_neg, ih (by omega)]
          intro hcc
          simp only [Bool.and_eq_true, decide_eq_true_eq] at hcc
          exact hc ((touched_iff _ _ _ _).2 ⟨k, by omega, hcc.1, by rw [← hl]; exact hcc.2⟩)
      exact hn 16 (by omega)
    have : burst s first ch = sealOf s := bs_inj _ _ (by rw [bs_burst, hfl])
    rw [this, open_seal]
end Go.Proofs.Ythhfogpkaeminaa
