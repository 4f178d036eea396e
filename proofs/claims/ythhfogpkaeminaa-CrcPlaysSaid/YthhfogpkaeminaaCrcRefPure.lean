/- The document's sum, a list of bits divided, is the register's. -/
import Derived.Test.YthhfogpkaeminaaPCrcPlaysx2
import Derived.Test.YthhfogpkaeminaaCrcWalk
namespace Go.Proofs.Ythhfogpkaeminaa
open Go.RowKit Go.Proofs.Ythhfogpkaeminaa.PCrcPlays Go.Proofs.YthhfogpkaeminaaW.PrintWords

def b2i (b : Bool) : Int := if b then 1 else 0
/-- A list of bits, told by a function. -/
def bitList (n : Nat) (f : Nat → Bool) : List Int := (List.range n).map fun j => b2i (f j)
theorem bitList_length (n : Nat) (f : Nat → Bool) : (bitList n f).length = n := by simp [bitList]
theorem bitList_congr (n : Nat) (f g : Nat → Bool) (h : ∀ j, j < n → f j = g j) : bitList n f = bitList n g := by
  unfold bitList
  apply List.map_congr_left
  intro j hj
  rw [h j (List.mem_range.1 hj)]
theorem rd_bitList (n : Nat) (f : Nat → Bool) (i : Nat) (hi : i < n) : rd (bitList n f) (i : Int) = b2i (f i) := by
  simp [rd, bitList, List.getD_eq_getElem?_getD, List.getElem?_map, List.getElem?_range hi]
theorem set_bitList (n : Nat) (f : Nat → Bool) (i : Nat) (b : Bool) : (bitList n f).set i (b2i b) = bitList n (fun j => if j = i then b else f j) := by
  apply List.ext_getElem
  · simp [bitList]
  · intro j h1 h2
    simp only [bitList, List.getElem_set, List.getElem_map, List.getElem_range]
    by_cases h : i = j
    · subst h; simp
    · rw [if_neg h, if_neg (fun e => h e.symm)]
theorem append_bitList (n : Nat) (f : Nat → Bool) (b : Bool) : bitList n f ++ [b2i b] = bitList (n + 1) (fun j => if j = n then b else f j) := by
  unfold bitList
  rw [List.range_succ, List.map_append]
  congr 1
  · apply List.map_congr_left
    intro j hj
    have := List.mem_range.1 hj
    have hne : ¬ j = n := by omega
    simp [hne]
  · simp
theorem wrap_small (i : Int) (h0 : -9223372036854775808 ≤ i) (h1 : i ≤ 9223372036854775807) : wrap64 i = i := by unfold wrap64; omega
theorem b2i_range (b : Bool) : 0 ≤ b2i b ∧ b2i b ≤ 1 := by cases b <;> simp [b2i]
theorem one_sub (b : Bool) : wrap64 (1 - b2i b) = b2i (!b) := by
  have := b2i_range b
  rw [wrap_small _ (by omega) (by omega)]
  cases b <;> rfl

/-- The last loop: bits as a number. -/
def num (l : List Bool) : Nat := l.foldl (fun a b => 2 * a + b.toNat) 0
theorem num_snoc (l : List Bool) (b : Bool) : num (l ++ [b]) = 2 * num l + b.toNat := by simp [num]
theorem num_lt (l : List Bool) : num l < 2 ^ l.length := by
  have h : ∀ (l : List Bool) a, l.foldl (fun a b => 2 * a + b.toNat) a < (a + 1) * 2 ^ l.length := by
    intro l
    induction l with
    | nil => intro a; simp
    | cons b l ih =>
      intro a
      simp only [List.foldl_cons, List.length_cons]
      refine Nat.lt_of_lt_of_le (ih _) ?_
      have : 2 * a + b.toNat + 1 ≤ 2 * (a + 1) := by cases b <;> simp <;> omega
      calc (2 * a + b.toNat + 1) * 2 ^ l.length ≤ (2 * (a + 1)) * 2 ^ l.length := Nat.mul_le_mul_right _ this
        _ = (a + 1) * 2 ^ (l.length + 1) := by rw [Nat.pow_succ, Nat.mul_comm 2 (a + 1), Nat.mul_assoc, Nat.mul_comm 2]
  unfold num
  simpa using h l 0
theorem l6_is (n : Nat) (f : Nat → Bool) (hn : n ≤ 10000) (d : Nat) : ∀ (k i : Nat) (out : Nat), i + d = n → d ≤ 16 → out < 2 ^ (16 - d) → d < k →
    belfryref15_Sum.l6 k (bitList n f) (out : Int) (i : Int) = some ((((List.range d).map fun j => f (i + j)).foldl (fun a b => 2 * a + b.toNat) out : Nat) : Int) := by
  induction d with
  | zero =>
    intro k i out h1 _ _ hk
    obtain ⟨k, rfl⟩ : ∃ m, k = m + 1 := ⟨k - 1, by omega⟩
    simp only [belfryref15_Sum.l6]
    rw [if_neg (by rw [bitList_length]; omega)]
    simp
  | succ d ih =>
    intro k i out h1 h2 h3 hk
    obtain ⟨k, rfl⟩ : ∃ m, k = m + 1 := ⟨k - 1, by omega⟩
    have hb := b2i_range (f i)
    have hlt : out < 65536 := Nat.lt_of_lt_of_le h3 (by
      have : 2 ^ (16 - (d + 1)) ≤ 2 ^ 16 := Nat.pow_le_pow_right (by decide) (by omega)
      omega)
    simp only [belfryref15_Sum.l6]
    rw [if_pos (by rw [bitList_length]; omega), if_pos (by omega), rd_bitList _ _ _ (by omega), wrap_small (2 * (out : Int)) (by omega) (by omega), wrap_small _ (by omega) (by omega), wrap_small _ (by omega) (by omega)]
    have e : 2 * (out : Int) + b2i (f i) = ((2 * out + (f i).toNat : Nat) : Int) := by
      cases f i <;> simp [b2i]
    have e2 : (i : Int) + 1 = ((i + 1 : Nat) : Int) := by omega
    have h16 : 2 ^ (16 - d) = 2 * 2 ^ (16 - (d + 1)) := by
      rw [show 16 - d = (16 - (d + 1)) + 1 by omega, Nat.pow_succ]; omega
    have hn1 : 2 * out + (f i).toNat < 2 ^ (16 - d) := by have := Bool.toNat_le (f i); rw [h16]; omega
    rw [e, e2, ih k (i + 1) _ (by omega) (by omega) hn1 (by omega), List.range_succ_eq_map, List.map_cons, List.foldl_cons, List.map_map]
    simp only [Nat.add_zero]
    congr 3
    apply List.map_congr_left
    intro j _
    simp only [Function.comp]
    congr 1
    omega

/-- The message, with 16 zeros behind. -/
def msg (D : List Bool) (j : Nat) : Bool := D.getD j false
/-- The list behind i steps, the register being v. -/
def stateBit (D : List Bool) (i : Nat) (v : BitVec 16) (j : Nat) : Bool :=
  if j < i then false else ((decide (j < i + 16) && v.getLsbD (15 - (j - i))) ^^ msg D j)
theorem step_bit (v : BitVec 16) (b : Bool) (m : Nat) (hm : m < 16) :
    (Crc.step v b).getLsbD m = ((decide (0 < m) && v.getLsbD (m - 1)) ^^ ((v.msb ^^ b) && (decide (m = 0) || decide (m = 5) || decide (m = 12)))) := by
  unfold Crc.step
  rw [BitVec.getLsbD_xor, BitVec.getLsbD_shiftLeft]
  have hp : (0x1021#16).getLsbD m = (decide (m = 0) || decide (m = 5) || decide (m = 12)) := by
    have : ∀ m : Fin 16, (0x1021#16).getLsbD m.1 = (decide (m.1 = 0) || decide (m.1 = 5) || decide (m.1 = 12)) := by decide
    exact this ⟨m, hm⟩
  have h1 : (decide (m < 16) && !decide (m < 1) && v.getLsbD (m - 1)) = (decide (0 < m) && v.getLsbD (m - 1)) := by
    by_cases h : m = 0
    · subst h; simp
    · have h2 : ¬ m < 1 := by omega
      have h3 : 0 < m := by omega
      simp [hm, h2, h3]
  rw [h1]
  cases hb : (v.msb ^^ b) with
  | true => simp [hp]
  | false => simp
theorem next_bit (D : List Bool) (i : Nat) (v : BitVec 16) (b : Bool) (j : Nat) (hj : i < j) :
    stateBit D (i + 1) (Crc.step v b) j = (stateBit D i v j ^^ ((v.msb ^^ b) && (decide (j = i + 4) || decide (j = i + 11) || decide (j = i + 16)))) := by
  unfold stateBit
  have h1 : ¬ j < i + 1 := by omega
  have h2 : ¬ j < i := by omega
  rw [if_neg h1, if_neg h2]
  by_cases h3 : j < i + 17
  · have h4 : j < i + 1 + 16 := by omega
    have hm : 15 - (j - (i + 1)) < 16 := by omega
    rw [step_bit v b _ hm]
    have e1 : decide (15 - (j - (i + 1)) = 0) = decide (j = i + 16) := decide_eq_decide.2 (by omega)
    have e2 : decide (15 - (j - (i + 1)) = 5) = decide (j = i + 11) := decide_eq_decide.2 (by omega)
    have e3 : decide (15 - (j - (i + 1)) = 12) = decide (j = i + 4) := decide_eq_decide.2 (by omega)
    have e4 : decide (0 < 15 - (j - (i + 1))) = decide (j < i + 16) := decide_eq_decide.2 (by omega)
    have e5 : 15 - (j - (i + 1)) - 1 = 15 - (j - i) := by omega
    rw [e1, e2, e3, e4, e5]
    simp only [h4, decide_true, Bool.true_and]
    generalize v.getLsbD (15 - (j - i)) = x
    generalize decide (j < i + 16) = y
    generalize (v.msb ^^ b) = t
    generalize decide (j = i + 4) = a1
    generalize decide (j = i + 11) = a2
    generalize decide (j = i + 16) = a3
    generalize msg D j = mm
    cases x <;> cases y <;> cases t <;> cases a1 <;> cases a2 <;> cases a3 <;> cases mm <;> rfl
  · have h4 : ¬ j < i + 1 + 16 := by omega
    have h5 : ¬ j < i + 16 := by omega
    have h6 : ¬ j = i + 4 := by omega
    have h7 : ¬ j = i + 11 := by omega
    have h8 : ¬ j = i + 16 := by omega
    simp [h4, h5, h6, h7, h8]
theorem now_zero (D : List Bool) (i : Nat) (v : BitVec 16) (j : Nat) (hj : j < i) : stateBit D i v j = false := by
  unfold stateBit; rw [if_pos hj]
theorem l5_is (D : List Bool) (hD : D.length ≤ 9000) (d : Nat) : ∀ (k i : Nat) (v : BitVec 16), i + d = D.length → d + 17 < k →
    belfryref15_Sum.l5 k (bitList (D.length + 16) (stateBit D i v)) (i : Int) = some ((num ((List.range 16).map fun j => (Crc.run v (D.drop i)).getLsbD (15 - j)) : Nat) : Int) := by
  induction d with
  | zero =>
    intro k i v h1 hk
    obtain ⟨k, rfl⟩ : ∃ m, k = m + 1 := ⟨k - 1, by omega⟩
    have hi : i = D.length := by omega
    subst hi
    simp only [belfryref15_Sum.l5]
    rw [if_neg (by rw [bitList_length, wrap_small _ (by omega) (by omega)]; omega), bitList_length, wrap_small _ (by omega) (by omega)]
    have e : ((D.length + 16 : Nat) : Int) - 16 = (D.length : Int) := by omega
    rw [e]
    have := l6_is (D.length + 16) (stateBit D D.length v) (by omega) 16 k D.length 0 (by omega) (by omega) (by decide) (by omega)
    rw [show ((0 : Nat) : Int) = 0 from rfl] at this
    rw [this, List.drop_length, Crc.run_nil]
    unfold num
    congr 3
    apply List.map_congr_left
    intro j hj
    have hj := List.mem_range.1 hj
    have h2 : ¬ D.length + j < D.length := by omega
    have h3 : D.length + j < D.length + 16 := by omega
    simp [stateBit, h2, h3, msg, show D.length + j - D.length = j by omega, List.getD_eq_getElem?_getD]
  | succ d ih =>
    intro k i v h1 hk
    obtain ⟨k, rfl⟩ : ∃ m, k = m + 1 := ⟨k - 1, by omega⟩
    have hi : i < D.length := by omega
    have hdrop : D.drop i = D[i] :: D.drop (i + 1) := List.drop_eq_getElem_cons hi
    have hmsg : msg D i = D[i] := by simp [msg, List.getD_eq_getElem?_getD, List.getElem?_eq_getElem hi]
    have htop : stateBit D i v i = (v.msb ^^ D[i]) := by
      have h2 : ¬ i < i := by omega
      have h3 : i < i + 16 := by omega
      simp only [stateBit, h2, h3, if_false, decide_true, Bool.true_and, Nat.sub_self, hmsg]
      rfl
    have hnext := ih k (i + 1) (Crc.step v D[i]) (by omega) (by omega)
    rw [hdrop, Crc.run_cons]
    rw [← hnext]
    simp only [belfryref15_Sum.l5]
    rw [if_pos (by rw [bitList_length, wrap_small _ (by omega) (by omega)]; omega), if_pos (by omega), if_pos (by rw [bitList_length]; omega), rd_bitList _ _ _ (by omega), htop]
    have w4 : wrap64 ((i : Int) + 4) = ((i + 4 : Nat) : Int) := by rw [wrap_small _ (by omega) (by omega)]; rfl
    have w11 : wrap64 ((i : Int) + 11) = ((i + 11 : Nat) : Int) := by rw [wrap_small _ (by omega) (by omega)]; rfl
    have w16 : wrap64 ((i : Int) + 16) = ((i + 16 : Nat) : Int) := by rw [wrap_small _ (by omega) (by omega)]; rfl
    have w1 : wrap64 ((i : Int) + 1) = ((i + 1 : Nat) : Int) := by rw [wrap_small _ (by omega) (by omega)]; rfl
    rw [w4, w11, w16, w1]
    have z : (0 : Int) = b2i false := rfl
    cases ht : (v.msb ^^ D[i]) with
    | false =>
      rw [if_neg (by decide)]
      congr 1
      apply bitList_congr
      intro j hj
      rcases Nat.lt_trichotomy j i with h | h | h
      · rw [now_zero _ _ _ _ h, now_zero _ _ _ _ (by omega)]
      · subst h
        rw [htop, ht, now_zero _ _ _ _ (by omega)]
      · rw [next_bit _ _ _ _ _ h, ht]; simp
    | true =>
      rw [if_pos (by decide)]
      simp only [Option.bind_some, Int.toNat_natCast]
      rw [z, set_bitList, if_pos (by omega), if_pos (by rw [bitList_length]; omega), rd_bitList _ _ _ (by omega), one_sub, set_bitList,
        if_pos (by omega), if_pos (by rw [bitList_length]; omega), rd_bitList _ _ _ (by omega), one_sub, set_bitList,
        if_pos (by omega), rd_bitList _ _ _ (by omega), one_sub, set_bitList]
      congr 1
      apply bitList_congr
      intro j hj
      have n1 : ¬ i + 16 = i + 11 := by omega
      have n2 : ¬ i + 16 = i + 4 := by omega
      have n3 : ¬ i + 16 = i := by omega
      have n4 : ¬ i + 11 = i + 4 := by omega
      have n5 : ¬ i + 11 = i := by omega
      have n6 : ¬ i + 4 = i := by omega
      simp only [n1, n2, n3, n4, n5, n6, if_false]
      rcases Nat.lt_trichotomy j i with h | h | h
      · rw [now_zero D (i + 1) _ _ (by omega), if_neg (by omega), if_neg (by omega), if_neg (by omega), if_neg (by omega), now_zero _ _ _ _ h]
      · subst h
        rw [now_zero D (j + 1) _ _ (by omega), if_neg (by omega), if_neg (by omega), if_neg (by omega), if_pos rfl]
      · rw [next_bit _ _ _ _ _ h, ht, if_neg (show ¬ j = i by omega)]
        by_cases h4 : j = i + 4
        · subst h4; simp
        · by_cases h11 : j = i + 11
          · subst h11; simp
          · by_cases h16 : j = i + 16
            · subst h16; simp
            · simp [h4, h11, h16]
end Go.Proofs.Ythhfogpkaeminaa
namespace Go.Proofs.Ythhfogpkaeminaa
open Go.RowKit Go.Proofs.Ythhfogpkaeminaa.PCrcPlays Go.Proofs.YthhfogpkaeminaaW.PrintWords
theorem bt_bs (s : ByteArray) (i : Nat) (h : i < s.size) : bt s (i : Int) = (((bs s)[i]'(by rw [bs_length]; exact h) : Nat) : Int) := by
  rw [bs_get s i h]
  unfold bt
  simp [h]
theorem digit (c m : Nat) (hc : c < 256) : Int.tmod (wrap64 (Int.tdiv (wrap64 (c : Int)) ((2 ^ m : Nat) : Int))) 2 = b2i (c.testBit m) := by
  rw [wrap_small (c : Int) (by omega) (by omega)]
  have e : Int.tdiv (c : Int) ((2 ^ m : Nat) : Int) = ((c / 2 ^ m : Nat) : Int) := rfl
  have hle : c / 2 ^ m ≤ c := Nat.div_le_self _ _
  rw [e, Nat.testBit_eq_decide_div_mod_eq]
  generalize c / 2 ^ m = q at *
  rw [wrap_small _ (by omega) (by omega)]
  have e2 : Int.tmod (q : Int) 2 = ((q % 2 : Nat) : Int) := rfl
  rw [e2]
  have := Nat.mod_two_eq_zero_or_one q
  rcases this with h | h <;> rw [h] <;> rfl
theorem l1_is (r : Int) (s : ByteArray) (hs : s.size ≤ 1000) (i : Nat) (hi : i < s.size) (d : Nat) : ∀ (k : Nat) (L : List Bool), d ≤ 8 → L.length ≤ 8 * i + 8 - d →
    belfryref15_Sum.l1 (d + 1 + k) r s (L.map b2i) (i : Int) (if d = 0 then 0 else ((2 ^ (d - 1) : Nat) : Int)) =
      belfryref15_Sum.l0 k r s ((L ++ (Crc.bitsOf ((bs s)[i]'(by rw [bs_length]; exact hi))).drop (8 - d)).map b2i) ((i + 1 : Nat) : Int) := by
  induction d with
  | zero =>
    intro k L _ _
    rw [show 0 + 1 + k = k + 1 by omega]
    simp only [belfryref15_Sum.l1, if_true]
    rw [if_neg (by omega), wrap_small _ (by omega) (by omega)]
    simp [Crc.bitsOf]
  | succ d ih =>
    intro k L h1 h2
    have hc : (bs s)[i]'(by rw [bs_length]; exact hi) < 256 := bs_lt s _ (List.getElem_mem _)
    rw [show d + 1 + 1 + k = (d + 1 + k) + 1 by omega]
    simp only [belfryref15_Sum.l1]
    rw [if_neg (show ¬ (d + 1 = 0) by omega), Nat.add_sub_cancel]
    have hp : 1 ≤ 2 ^ d := Nat.one_le_two_pow
    rw [if_pos (by omega), if_pos (by omega), if_pos (by omega), if_neg (by omega), if_pos (by rw [List.length_map]; omega), bt_bs s i hi, digit _ _ hc]
    have hn : wrap64 (Int.tdiv ((2 ^ d : Nat) : Int) 2) = (if d = 0 then 0 else ((2 ^ (d - 1) : Nat) : Int)) := by
      have hle : 2 ^ d ≤ 2 ^ 8 := Nat.pow_le_pow_right (by decide) (by omega)
      have e : Int.tdiv ((2 ^ d : Nat) : Int) 2 = ((2 ^ d / 2 : Nat) : Int) := rfl
      rw [e, wrap_small _ (by omega) (by omega)]
      by_cases h : d = 0
      · subst h; rfl
      · rw [if_neg h]
        congr 1
        obtain ⟨q, rfl⟩ : ∃ q, d = q + 1 := ⟨d - 1, by omega⟩
        rw [Nat.pow_succ, Nat.add_sub_cancel]; omega
    rw [hn]
    have hL : (L.map b2i) ++ [b2i (((bs s)[i]'(by rw [bs_length]; exact hi)).testBit d)] = (L ++ [((bs s)[i]'(by rw [bs_length]; exact hi)).testBit d]).map b2i := by simp
    rw [hL, ih k _ (by omega) (by simp; omega)]
    congr 2
    rw [List.append_assoc]
    congr 1
    generalize (bs s)[i]'(by rw [bs_length]; exact hi) = c
    have : d = 0 ∨ d = 1 ∨ d = 2 ∨ d = 3 ∨ d = 4 ∨ d = 5 ∨ d = 6 ∨ d = 7 := by omega
    rcases this with rfl | rfl | rfl | rfl | rfl | rfl | rfl | rfl <;> rfl
theorem l0_is (r : Int) (s : ByteArray) (hs : s.size ≤ 1000) (d : Nat) : ∀ (k i : Nat), i + d = s.size →
    belfryref15_Sum.l0 (10 * d + 1 + k) r s ((Crc.bitsAll ((bs s).take i)).map b2i) (i : Int) = belfryref15_Sum.l2 k r ((Crc.bitsAll (bs s)).map b2i) 0 := by
  induction d with
  | zero =>
    intro k i hi
    rw [show 10 * 0 + 1 + k = k + 1 by omega]
    simp only [belfryref15_Sum.l0]
    rw [if_neg (by omega), List.take_of_length_le (by rw [bs_length]; omega)]
  | succ d ih =>
    intro k i hi
    rw [show 10 * (d + 1) + 1 + k = (8 + 1 + (10 * d + 1 + k)) + 1 by omega]
    simp only [belfryref15_Sum.l0]
    rw [if_pos (by omega)]
    have := l1_is r s hs i (by omega) 8 (10 * d + 1 + k) (Crc.bitsAll ((bs s).take i)) (by omega) (by rw [Crc.bitsAll_length, List.length_take]; omega)
    simp only [Nat.reduceEqDiff, if_false, Nat.sub_self, List.drop_zero, Nat.reduceSub, Nat.reducePow] at this
    rw [show ((128 : Nat) : Int) = 128 from rfl] at this
    rw [this, ← ih k (i + 1) (by omega)]
    congr 2
    have hlt : i < s.size := by omega
    rw [bs_take_succ s i hlt, Crc.bitsAll_append, ← bs_get s i hlt]
    simp [Crc.bitsAll]
theorem l2_is (r : Int) (D : List Bool) (hD : D.length ≤ 9000) (d : Nat) : ∀ (k i : Nat), i + d = 16 →
    belfryref15_Sum.l2 (d + 1 + k) r ((D ++ List.replicate i false).map b2i) (i : Int) = belfryref15_Sum.l3 k r ((D ++ List.replicate 16 false).map b2i) 0 := by
  induction d with
  | zero =>
    intro k i hi
    have : i = 16 := by omega
    subst this
    rw [show 0 + 1 + k = k + 1 by omega]
    simp only [belfryref15_Sum.l2]
    rw [if_neg (by omega)]
  | succ d ih =>
    intro k i hi
    rw [show d + 1 + 1 + k = (d + 1 + k) + 1 by omega]
    simp only [belfryref15_Sum.l2]
    rw [if_pos (by omega), if_pos (by simp; omega), wrap_small _ (by omega) (by omega), show (i : Int) + 1 = ((i + 1 : Nat) : Int) by omega, ← ih k (i + 1) (by omega)]
    congr 1
    rw [show (0 : Int) = b2i false from rfl, ← List.map_singleton, ← List.map_append, List.append_assoc, List.replicate_succ']
theorem map_msg (D : List Bool) : (D ++ List.replicate 16 false).map b2i = bitList (D.length + 16) (msg D) := by
  apply List.ext_getElem
  · simp [bitList]
  · intro i h1 h2
    simp only [bitList, List.getElem_map, List.getElem_range, msg]
    congr 1
    by_cases h : i < D.length
    · rw [List.getElem_append_left h]; simp [List.getD_eq_getElem?_getD, List.getElem?_eq_getElem h]
    · rw [List.getElem_append_right (by omega), List.getElem_replicate]; simp [List.getD_eq_getElem?_getD, List.getElem?_eq_none (show D.length ≤ i by omega)]
theorem l4_is (v : BitVec 16) (xs : List Int) (i : Nat) (hi : i < 16) (hl : i < xs.length) (b : Bool) (hx : rd xs (i : Int) = b2i b) (d : Nat) : ∀ (k j : Nat), j + d = i →
    belfryref15_Sum.l4 (d + 1 + k) (v.toNat : Int) xs (i : Int) ((32768 / 2 ^ j : Nat) : Int) (j : Int) = belfryref15_Sum.l3 k (v.toNat : Int) (xs.set i (b2i (b ^^ v.getLsbD (15 - i)))) ((i + 1 : Nat) : Int) := by
  have hv := v.isLt
  induction d with
  | zero =>
    intro k j hj
    have : j = i := by omega
    subst this
    rw [show 0 + 1 + k = k + 1 by omega]
    simp only [belfryref15_Sum.l4]
    have hp : 32768 / 2 ^ j = 2 ^ (15 - j) := by
      have : j = 0 ∨ j = 1 ∨ j = 2 ∨ j = 3 ∨ j = 4 ∨ j = 5 ∨ j = 6 ∨ j = 7 ∨ j = 8 ∨ j = 9 ∨ j = 10 ∨ j = 11 ∨ j = 12 ∨ j = 13 ∨ j = 14 ∨ j = 15 := by omega
      rcases this with rfl | rfl | rfl | rfl | rfl | rfl | rfl | rfl | rfl | rfl | rfl | rfl | rfl | rfl | rfl | rfl <;> rfl
    have hp1 : 1 ≤ 2 ^ (15 - j) := Nat.one_le_two_pow
    have hle : v.toNat / 2 ^ (15 - j) ≤ v.toNat := Nat.div_le_self _ _
    have hb := b2i_range b
    have hbit : v.getLsbD (15 - j) = decide (v.toNat / 2 ^ (15 - j) % 2 = 1) := by
      rw [BitVec.getLsbD, Nat.testBit_eq_decide_div_mod_eq]
    rw [if_neg (by omega), if_pos (by omega), if_pos (by omega), hp, if_neg (by omega), hx, show Int.tdiv (v.toNat : Int) ((2 ^ (15 - j) : Nat) : Int) = ((v.toNat / 2 ^ (15 - j) : Nat) : Int) from rfl, hbit]
    clear hbit hp hp1
    generalize v.toNat / 2 ^ (15 - j) = q at *
    rw [wrap_small (q : Int) (by omega) (by omega), wrap_small (b2i b + _) (by omega) (by omega), wrap_small ((j : Int) + 1) (by omega) (by omega), Int.toNat_natCast]
    congr 2
    have hm := Nat.mod_two_eq_zero_or_one q
    have e : Int.tmod (b2i b + (q : Int)) 2 = (b2i b + (q : Int)) % 2 := Int.tmod_eq_emod_of_nonneg (by omega)
    rw [e]
    rcases hm with h | h <;> rw [h] <;> cases b <;> simp [b2i] <;> omega
  | succ d ih =>
    intro k j hj
    rw [show d + 1 + 1 + k = (d + 1 + k) + 1 by omega]
    simp only [belfryref15_Sum.l4]
    have hle : 32768 / 2 ^ j ≤ 32768 := Nat.div_le_self _ _
    have e : Int.tdiv ((32768 / 2 ^ j : Nat) : Int) 2 = ((32768 / 2 ^ j / 2 : Nat) : Int) := rfl
    have h2 : 32768 / 2 ^ (j + 1) = 32768 / 2 ^ j / 2 := by rw [Nat.div_div_eq_div_mul, Nat.pow_succ]
    rw [if_pos (by omega), e, ← ih k (j + 1) (by omega), h2]
    generalize 32768 / 2 ^ j = q at *
    rw [wrap_small _ (by omega) (by omega), wrap_small _ (by omega) (by omega), show (j : Int) + 1 = ((j + 1 : Nat) : Int) by omega]
def fl3 : Nat → Nat
  | 0 => 1
  | d + 1 => (15 - d) + 2 + fl3 d
theorem l3_is (D : List Bool) (hD : D.length ≤ 9000) (v : BitVec 16) (d : Nat) : ∀ (k i : Nat), i + d = 16 →
    belfryref15_Sum.l3 (fl3 d + k) (v.toNat : Int) (bitList (D.length + 16) (fun j => (decide (j < i) && v.getLsbD (15 - j)) ^^ msg D j)) (i : Int) =
      belfryref15_Sum.l5 k (bitList (D.length + 16) (stateBit D 0 v)) 0 := by
  induction d with
  | zero =>
    intro k i hi
    have : i = 16 := by omega
    subst this
    rw [show fl3 0 + k = k + 1 by simp only [fl3]; omega]
    simp only [belfryref15_Sum.l3]
    rw [if_neg (by omega)]
    congr 1
  | succ d ih =>
    intro k i hi
    rw [show fl3 (d + 1) + k = (i + 1 + (fl3 d + k)) + 1 by simp only [fl3]; omega]
    simp only [belfryref15_Sum.l3]
    rw [if_pos (by omega)]
    have h4 := l4_is v (bitList (D.length + 16) (fun j => (decide (j < i) && v.getLsbD (15 - j)) ^^ msg D j)) i (by omega) (by rw [bitList_length]; omega) (msg D i)
      (by rw [rd_bitList _ _ _ (by omega)]; simp) i (fl3 d + k) 0 (by omega)
    rw [show ((32768 / 2 ^ 0 : Nat) : Int) = 32768 from rfl, show ((0 : Nat) : Int) = 0 from rfl] at h4
    rw [h4, set_bitList]
    have e : bitList (D.length + 16) (fun j => if j = i then msg D i ^^ v.getLsbD (15 - i) else (decide (j < i) && v.getLsbD (15 - j)) ^^ msg D j) =
        bitList (D.length + 16) (fun j => (decide (j < i + 1) && v.getLsbD (15 - j)) ^^ msg D j) := by
      apply bitList_congr
      intro j _
      by_cases h : j = i
      · subst h; simp [Bool.xor_comm]
      · have : decide (j < i + 1) = decide (j < i) := decide_eq_decide.2 (by omega)
        simp [h, this]
    rw [e, ih k (i + 1) (by omega)]
theorem num_bits (x : BitVec 16) (n : Nat) (hn : n ≤ 16) : num ((List.range n).map fun j => x.getLsbD (15 - j)) = x.toNat / 2 ^ (16 - n) := by
  induction n with
  | zero =>
    have := x.isLt
    rw [List.range_zero, List.map_nil, Nat.div_eq_of_lt (by simpa using this)]
    rfl
  | succ n ih =>
    rw [List.range_succ, List.map_append, List.map_singleton, num_snoc, ih (by omega)]
    have e : 16 - n = (15 - n) + 1 := by omega
    have e2 : 16 - (n + 1) = 15 - n := by omega
    rw [e, e2, Nat.pow_succ, ← Nat.div_div_eq_div_mul, BitVec.getLsbD, Nat.testBit_eq_decide_div_mod_eq]
    generalize x.toNat / 2 ^ (15 - n) = q
    have := Nat.mod_two_eq_zero_or_one q
    rcases this with h | h <;> rw [h] <;> simp <;> omega
/-- The document's sum is the register's. -/
theorem ref_sum (r : Int) (s : ByteArray) (hs : s.size ≤ 1000) : ∃ k, belfryref15_Sum.f k r s = some (crcMore r s) := by
  obtain ⟨v, hv⟩ : ∃ v, v = BitVec.ofInt 16 r := ⟨_, rfl⟩
  have hvr : (v.toNat : Int) = r % 65536 := by rw [hv, BitVec.toNat_ofInt]; omega
  have hlt := v.isLt
  have hlen : (Crc.bitsAll (bs s)).length = 8 * s.size := by rw [Crc.bitsAll_length, bs_length]
  have hmain : ∀ k, belfryref15_Sum.j0 (1 + (10 * s.size + 1 + (16 + 1 + (fl3 16 + (8 * s.size + 18 + k))))) (v.toNat : Int) s = some (crcMore r s) := by
    intro k
    rw [Nat.add_comm 1]
    simp only [belfryref15_Sum.j0]
    have h0 := l0_is (v.toNat : Int) s hs s.size (16 + 1 + (fl3 16 + (8 * s.size + 18 + k))) 0 (by omega)
    simp only [List.take_zero] at h0
    rw [show Crc.bitsAll [] = [] from rfl, List.map_nil, show ((0 : Nat) : Int) = 0 from rfl] at h0
    rw [h0]
    have h2 := l2_is (v.toNat : Int) (Crc.bitsAll (bs s)) (by omega) 16 (fl3 16 + (8 * s.size + 18 + k)) 0 (by omega)
    simp only [List.replicate_zero, List.append_nil] at h2
    rw [show ((0 : Nat) : Int) = 0 from rfl] at h2
    rw [h2, map_msg]
    have h3 := l3_is (Crc.bitsAll (bs s)) (by omega) v 16 (8 * s.size + 18 + k) 0 (by omega)
    rw [show ((0 : Nat) : Int) = 0 from rfl] at h3
    have e : bitList ((Crc.bitsAll (bs s)).length + 16) (fun j => (decide (j < 0) && v.getLsbD (15 - j)) ^^ msg (Crc.bitsAll (bs s)) j) = bitList ((Crc.bitsAll (bs s)).length + 16) (msg (Crc.bitsAll (bs s))) :=
      bitList_congr _ _ _ (fun j _ => by simp)
    rw [e] at h3
    rw [h3]
    have h5 := l5_is (Crc.bitsAll (bs s)) (by omega) (8 * s.size) (8 * s.size + 18 + k) 0 v (by omega) (by omega)
    rw [show ((0 : Nat) : Int) = 0 from rfl] at h5
    rw [h5, List.drop_zero]
    unfold crcMore Crc.more
    rw [← hv]
    congr 2
    generalize Crc.run v (Crc.bitsAll (bs s)) = x
    rw [num_bits x 16 (by omega)]
    simp
  refine ⟨1 + (10 * s.size + 1 + (16 + 1 + (fl3 16 + (8 * s.size + 18 + 0)))), ?_⟩
  unfold belfryref15_Sum.f
  have ht := Int.tmod_def r 65536
  by_cases hneg : Int.tmod r 65536 < 0
  · rw [if_pos hneg]
    have e : wrap64 (Int.tmod r 65536 + 65536) = (v.toNat : Int) := by
      have h1 : -65536 < Int.tmod r 65536 := Int.lt_tmod_of_pos r (by decide)
      rw [wrap_small _ (by omega) (by omega), hvr]
      have h2 : r % 65536 = Int.tmod r 65536 % 65536 := by rw [ht]; omega
      rw [h2]; omega
    rw [e]; exact hmain 0
  · rw [if_neg hneg]
    have e : Int.tmod r 65536 = (v.toNat : Int) := by
      have h1 : Int.tmod r 65536 < 65536 := Int.tmod_lt_of_pos r (by decide)
      rw [hvr]
      have h2 : r % 65536 = Int.tmod r 65536 % 65536 := by rw [ht]; omega
      rw [h2]; omega
    rw [e]; exact hmain 0
/-- The walk of the document's sum. -/
theorem refSum_is (r : Int) (s : ByteArray) (hs : s.size ≤ 1000) (w : World) :
    Calls Try.prog 26 #[.int .i64 r, .string s] w fun e w' => e = .returned (.int .i64 (crcMore r s)) ∧ Below w.heap.size w w' := by
  obtain ⟨k, hk⟩ := ref_sum r s hs
  exact belfryref15_Sum.calls k r s _ w hk
end Go.Proofs.Ythhfogpkaeminaa
