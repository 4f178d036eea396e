/- The sum of 16 bits as a linear register; what a burst does to it. -/
namespace Go.Proofs.Ythhfogpkaeminaa.Crc
/-- One bit into the register. -/
def step (v : BitVec 16) (b : Bool) : BitVec 16 := (v <<< 1) ^^^ (if (v.msb ^^ b) then 0x1021#16 else 0#16)
/-- Bits, one behind the other. -/
def run (v : BitVec 16) (l : List Bool) : BitVec 16 := l.foldl step v
theorem run_nil (v : BitVec 16) : run v [] = v := rfl
theorem run_cons (v : BitVec 16) (b : Bool) (l : List Bool) : run v (b :: l) = run (step v b) l := rfl
theorem run_append (v : BitVec 16) (l m : List Bool) : run v (l ++ m) = run (run v l) m := by simp [run]
/-- A byte's bits, the highest first. -/
def bitsOf (c : Nat) : List Bool := [c.testBit 7, c.testBit 6, c.testBit 5, c.testBit 4, c.testBit 3, c.testBit 2, c.testBit 1, c.testBit 0]
def bitsAll (l : List Nat) : List Bool := l.flatMap bitsOf
theorem bitsAll_append (l m : List Nat) : bitsAll (l ++ m) = bitsAll l ++ bitsAll m := by simp [bitsAll]
theorem bitsAll_length (l : List Nat) : (bitsAll l).length = 8 * l.length := by
  induction l with
  | nil => rfl
  | cons c l ih => simp [bitsAll, bitsOf] at *; omega
def more (v : BitVec 16) (l : List Nat) : BitVec 16 := run v (bitsAll l)
theorem more_append (v : BitVec 16) (l m : List Nat) : more v (l ++ m) = more (more v l) m := by simp [more, bitsAll_append, run_append]

theorem pick_xor (x y : Bool) (p : BitVec 16) : (if (x ^^ y) then p else 0#16) = (if x then p else 0#16) ^^^ (if y then p else 0#16) := by
  cases x <;> cases y <;> simp
theorem step_lin (v w : BitVec 16) (a b : Bool) : step (v ^^^ w) (a ^^ b) = step v a ^^^ step w b := by
  unfold step
  rw [BitVec.msb_xor, BitVec.shiftLeft_xor_distrib, pick_xor, pick_xor, pick_xor, pick_xor, pick_xor]
  ac_rfl
theorem run_lin (l m : List Bool) : ∀ (v w : BitVec 16), l.length = m.length → run (v ^^^ w) (List.zipWith Bool.xor l m) = run v l ^^^ run w m := by
  induction l generalizing m with
  | nil => intro v w h; cases m with
    | nil => rfl
    | cons => simp at h
  | cons a l ih =>
    intro v w h
    cases m with
    | nil => simp at h
    | cons b m =>
      simp only [List.zipWith_cons_cons, run_cons]
      rw [step_lin]
      exact ih m _ _ (by simpa using h)

theorem step_zero (v : BitVec 16) (h : step v false = 0#16) : v = 0#16 := by
  unfold step at h
  rw [Bool.xor_false] at h
  cases hm : v.msb with
  | true =>
    rw [hm] at h
    have := congrArg (fun x => BitVec.getLsbD x 0) h
    simp at this
  | false =>
    rw [hm] at h
    simp at h
    apply BitVec.eq_of_toNat_eq
    have h2 := congrArg BitVec.toNat h
    rw [BitVec.toNat_shiftLeft] at h2
    rw [BitVec.msb_eq_decide] at hm
    simp [Nat.shiftLeft_eq] at h2 hm
    simp
    omega
theorem step_0 : step 0#16 false = 0#16 := by decide
theorem run_zeros_zero (n : Nat) : run 0#16 (List.replicate n false) = 0#16 := by
  induction n with
  | zero => rfl
  | succ n ih => rw [List.replicate_succ, run_cons, step_0, ih]
theorem run_zeros_inj (n : Nat) : ∀ v : BitVec 16, run v (List.replicate n false) = 0#16 → v = 0#16 := by
  induction n with
  | zero => intro v h; exact h
  | succ n ih => intro v h; rw [List.replicate_succ, run_cons] at h; exact step_zero v (ih _ h)

/-- Bits at the register's upper end. -/
def top : List Bool → BitVec 16
  | [] => 0#16
  | b :: l => (if b then 0x8000#16 else 0#16) ^^^ (top l >>> 1)
theorem top_low (l : List Bool) : ∀ i, i + l.length < 16 → (top l).getLsbD i = false := by
  induction l with
  | nil => intro i _; simp [top]
  | cons b l ih =>
    intro i hi
    simp only [List.length_cons] at hi
    have := ih (i + 1) (by omega)
    simp only [top, BitVec.getLsbD_xor, BitVec.getLsbD_ushiftRight, Nat.add_comm 1 i, this]
    have h8 : (0x8000#16).getLsbD i = false := by
      have : i < 15 := by omega
      have : ∀ i : Fin 15, (0x8000#16).getLsbD i.1 = false := by decide
      exact this ⟨i, by omega⟩
    cases b <;> simp [h8]
theorem shr_shl (x : BitVec 16) (h : x.getLsbD 0 = false) : (x >>> 1) <<< 1 = x := by
  apply BitVec.eq_of_getLsbD_eq
  intro i hi
  simp only [BitVec.getLsbD_shiftLeft, BitVec.getLsbD_ushiftRight]
  rcases Nat.eq_zero_or_pos i with rfl | hp
  · simpa using h.symm
  · have : 1 + (i - 1) = i := by omega
    simp [hi, this]
    omega
theorem step_top (v : BitVec 16) (b : Bool) : step v b = step (v ^^^ (if b then 0x8000#16 else 0#16)) false := by
  cases b with
  | false => simp
  | true =>
    have h := step_lin v 0x8000#16 true true
    have h1 : step 0x8000#16 true = 0#16 := by decide
    rw [h1] at h
    simp at h
    simp [h]
theorem step_plus (v x : BitVec 16) (h : x.msb = false) : step v false ^^^ (x <<< 1) = step (v ^^^ x) false := by
  have := step_lin v x false false
  simp only [Bool.xor_false] at this
  rw [this]
  congr 1
  simp [step, h]
/-- Feeding bits is feeding zeros to what they are made one with. -/
theorem run_top (l : List Bool) : ∀ v : BitVec 16, l.length ≤ 16 → run v l = run (v ^^^ top l) (List.replicate l.length false) := by
  induction l with
  | nil => intro v _; simp [run, top]
  | cons b l ih =>
    intro v hl
    simp only [List.length_cons] at hl
    rw [run_cons, ih _ (by omega), List.length_cons, List.replicate_succ, run_cons]
    congr 1
    rw [step_top v b, top, ← BitVec.xor_assoc, ← step_plus _ (top l >>> 1) (by simp [BitVec.msb_ushiftRight]), shr_shl _ (top_low l 0 (by omega))]
theorem top_inj (l : List Bool) : l.length ≤ 16 → top l = 0#16 → l = List.replicate l.length false := by
  induction l with
  | nil => intros; rfl
  | cons b l ih =>
    intro hl h
    simp only [List.length_cons] at hl
    rw [top] at h
    have hb : b = false := by
      have := congrArg (fun x => BitVec.getLsbD x 15) h
      cases b with
      | false => rfl
      | true => simp at this
    subst hb
    have h0 : top l = 0#16 := by
      rw [← shr_shl _ (top_low l 0 (by omega))]
      simp at h
      rw [h]; rfl
    rw [List.length_cons, List.replicate_succ, ← ih (by omega) h0]
theorem run_short (l : List Bool) (hl : l.length ≤ 16) (h : run 0#16 l = 0#16) : l = List.replicate l.length false := by
  rw [run_top l _ hl] at h
  have := run_zeros_inj _ _ h
  exact top_inj l hl (by simpa using this)
/-- A burst: zeros, up to 16 bits, zeros. -/
theorem run_burst (n m : Nat) (l : List Bool) (hl : l.length ≤ 16) (h : run 0#16 (List.replicate n false ++ l ++ List.replicate m false) = 0#16) : l = List.replicate l.length false := by
  rw [run_append, run_append, run_zeros_zero] at h
  exact run_short l hl (run_zeros_inj _ _ h)
end Go.Proofs.Ythhfogpkaeminaa.Crc
