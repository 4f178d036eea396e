/- Words of 127 bits and what they are at the powers, in plain numbers: the code's distance, its turns, its one word of each 64 bits. -/
import Derived.Test.YthponlnklmhbeaaFieldRootPure
set_option linter.unusedVariables false
set_option linter.unusedSimpArgs false
namespace Go.Proofs.Ythponlnklmhbeaa
namespace F7
/-- The sum of f 0 .. f (n - 1). -/
def xs (f : Nat → Nat) : Nat → Nat
  | 0 => 0
  | n + 1 => xs f n ^^^ f n
theorem xs_congr {f g : Nat → Nat} (n : Nat) (h : ∀ i, i < n → f i = g i) : xs f n = xs g n := by
  induction n with
  | zero => rfl
  | succ n ih => rw [xs, xs, ih fun i hi => h i (by omega), h n (by omega)]
theorem xs_lt (f : Nat → Nat) (n : Nat) (h : ∀ i, i < n → f i < 128) : xs f n < 128 := by
  induction n with
  | zero => simp [xs]
  | succ n ih => exact xor_lt _ _ (ih fun i hi => h i (by omega)) (h n (by omega))
theorem xor4 (a b c d : Nat) : (a ^^^ b) ^^^ (c ^^^ d) = (a ^^^ c) ^^^ (b ^^^ d) := by
  rw [Nat.xor_assoc, ← Nat.xor_assoc b, Nat.xor_comm b c, Nat.xor_assoc c, ← Nat.xor_assoc]
theorem xs_xor (f g : Nat → Nat) (n : Nat) : xs (fun i => f i ^^^ g i) n = xs f n ^^^ xs g n := by
  induction n with
  | zero => simp [xs]
  | succ n ih => rw [xs, ih, xs, xs, xor4]
theorem xs_mul (c : Nat) (f : Nat → Nat) (n : Nat) (hc : c < 128) (h : ∀ i, i < n → f i < 128) : mul c (xs f n) = xs (fun i => mul c (f i)) n := by
  induction n with
  | zero => exact mul_zero c
  | succ n ih => rw [xs, mul_xor c _ _ hc (xs_lt f n fun i hi => h i (by omega)) (h n (by omega)), ih fun i hi => h i (by omega), xs]
theorem xs_succ (f : Nat → Nat) (n : Nat) : xs f (n + 1) = xs f n ^^^ f n := rfl
theorem xor_cong {a b c d : Nat} (h1 : a = c) (h2 : b = d) : a ^^^ b = c ^^^ d := by rw [h1, h2]
theorem xs_left (f : Nat → Nat) (n : Nat) : xs f (n + 1) = f 0 ^^^ xs (fun i => f (i + 1)) n := by
  induction n with
  | zero => simp [xs]
  | succ n ih => rw [xs, ih, xs, Nat.xor_assoc]
theorem xs_zero {f : Nat → Nat} (n : Nat) (h : ∀ i, i < n → f i = 0) : xs f n = 0 := by
  induction n with
  | zero => rfl
  | succ n ih => rw [xs, ih fun i hi => h i (by omega), h n (by omega)]; rfl
theorem xs_one (f : Nat → Nat) (n k : Nat) (hk : k < n) (h : ∀ i, i < n → i ≠ k → f i = 0) : xs f n = f k := by
  induction n with
  | zero => omega
  | succ n ih =>
    rw [xs]
    by_cases e : k = n
    · subst e
      rw [xs_zero k fun i hi => h i (by omega) (by omega), Nat.zero_xor]
    · rw [ih (by omega) fun i hi => h i (by omega), h n (by omega) (by omega), Nat.xor_zero]
theorem xs_cut (f : Nat → Nat) (m n : Nat) (hm : m ≤ n) (h : ∀ i, m ≤ i → i < n → f i = 0) : xs f n = xs f m := by
  induction n with
  | zero => rw [show m = 0 by omega]
  | succ n ih =>
    by_cases e : m = n + 1
    · rw [e]
    · rw [xs, ih (by omega) fun i h1 h2 => h i h1 (by omega), h n (by omega) (by omega), Nat.xor_zero]
theorem xs_sq (f : Nat → Nat) (n : Nat) (h : ∀ i, i < n → f i < 128) : mul (xs f n) (xs f n) = xs (fun i => mul (f i) (f i)) n := by
  induction n with
  | zero => exact mul_zero 0
  | succ n ih =>
    have l1 := xs_lt f n fun i hi => h i (by omega)
    have l2 := h n (by omega)
    rw [xs, mul_xor _ _ _ (xor_lt _ _ l1 l2) l1 l2, xor_mul _ _ _ l1 l1 l2, xor_mul _ _ _ l2 l1 l2, ih fun i hi => h i (by omega), xs, mul_comm (f n) (xs f n)]
    generalize xs (fun i => mul (f i) (f i)) n = a
    generalize mul (xs f n) (f n) = b
    generalize mul (f n) (f n) = c
    rw [Nat.xor_assoc, ← Nat.xor_assoc b b c, Nat.xor_self, Nat.zero_xor]
/-- A word's term. -/
def bt (b : Bool) (x : Nat) : Nat := if b = true then x else 0
theorem bt_lt (b : Bool) (x : Nat) (h : x < 128) : bt b x < 128 := by unfold bt; split <;> omega
theorem bt_xor (a b : Bool) (x : Nat) : bt (a != b) x = bt a x ^^^ bt b x := by cases a <;> cases b <;> simp [bt]
theorem bt_mul (c : Nat) (b : Bool) (x : Nat) : mul c (bt b x) = bt b (mul c x) := by cases b <;> simp [bt, mul_zero]
/-- What a word is at a power. -/
def syn (w : Nat → Bool) (j : Nat) : Nat := xs (fun i => bt (w i) (ex (i * j))) 127
theorem syn_lt (w : Nat → Bool) (j : Nat) : syn w j < 128 := xs_lt _ _ fun i _ => bt_lt _ _ (ex_lt _)
theorem syn_xor (v w : Nat → Bool) (j : Nat) : syn (fun i => v i != w i) j = syn v j ^^^ syn w j := by
  unfold syn
  rw [← xs_xor]
  exact xs_congr _ fun i _ => bt_xor _ _ _
theorem syn_congr {v w : Nat → Bool} (h : ∀ i, i < 127 → v i = w i) (j : Nat) : syn v j = syn w j := xs_congr _ fun i hi => by rw [h i hi]
theorem syn_zero (j : Nat) : syn (fun _ => false) j = 0 := xs_zero _ fun i _ => rfl
theorem syn_sq (w : Nat → Bool) (j : Nat) : syn w (j * 2) = mul (syn w j) (syn w j) := by
  unfold syn
  rw [xs_sq _ _ fun i _ => bt_lt _ _ (ex_lt _)]
  refine xs_congr _ fun i _ => ?_
  cases w i
  · simp [bt, mul_zero]
  · simp only [bt, if_true]
    rw [mul_ex]
    congr 1
    rw [← Nat.mul_assoc]; omega
theorem syn_pow (w : Nat → Bool) (j k : Nat) (h : syn w j = 0) : syn w (j * 2 ^ k) = 0 := by
  induction k with
  | zero => simpa using h
  | succ k ih => rw [Nat.pow_succ, ← Nat.mul_assoc, syn_sq, ih, mul_zero]
/-- A word turned by one. -/
def rot1 (w : Nat → Bool) : Nat → Bool := fun i => w ((i + 126) % 127)
theorem syn_rot1 (w : Nat → Bool) (j : Nat) : syn (rot1 w) j = mul (ex j) (syn w j) := by
  unfold syn
  rw [xs_mul _ _ _ (ex_lt _) fun i _ => bt_lt _ _ (ex_lt _), xs_left, xs_succ (fun i => mul (ex j) (bt (w i) (ex (i * j)))) 126, Nat.xor_comm]
  refine xor_cong ?_ ?_
  · refine xs_congr _ fun i hi => ?_
    rw [bt_mul, mul_ex]
    unfold rot1
    rw [show (i + 1 + 126) % 127 = i by omega]
    congr 2
    rw [Nat.add_mul, Nat.one_mul, Nat.add_comm]
  · rw [bt_mul, mul_ex]
    unfold rot1
    congr 1
    refine ex_cong ?_
    rw [Nat.zero_mul, show j + 126 * j = 127 * j by omega, Nat.mul_mod_right]
def rotN (w : Nat → Bool) : Nat → Nat → Bool
  | 0 => w
  | s + 1 => rot1 (rotN w s)
theorem rotN_at (w : Nat → Bool) (s i : Nat) (hi : i < 127) : rotN w s ((i + s) % 127) = w i := by
  induction s with
  | zero => rw [rotN, Nat.add_zero, Nat.mod_eq_of_lt hi]
  | succ s ih =>
    rw [rotN, rot1, ← ih]
    congr 1; omega
theorem syn_rotN (w : Nat → Bool) (j s : Nat) (h : syn w j = 0) : syn (rotN w s) j = 0 := by
  induction s with
  | zero => exact h
  | succ s ih => rw [rotN, syn_rot1, ih, mul_zero]
/-- A word is a codeword. -/
def Cw (w : Nat → Bool) : Prop := ∀ j, 1 ≤ j → j ≤ 20 → syn w j = 0
theorem Cw.xor {v w : Nat → Bool} (hv : Cw v) (hw : Cw w) : Cw (fun i => v i != w i) := fun j h1 h2 => by rw [syn_xor, hv j h1 h2, hw j h1 h2]; rfl
theorem Cw.congr {v w : Nat → Bool} (hv : Cw v) (h : ∀ i, i < 127 → w i = v i) : Cw w := fun j h1 h2 => by rw [syn_congr h, hv j h1 h2]
theorem Cw.rot {w : Nat → Bool} (hw : Cw w) (s : Nat) : Cw (rotN w s) := fun j h1 h2 => syn_rotN w j s (hw j h1 h2)
theorem Cw.zero : Cw (fun _ => false) := fun j _ _ => syn_zero j
theorem ev_xs (j : Nat) : ∀ p : List Nat, Low p → ev p (ex j) = xs (fun i => mul (p.getD i 0) (ex (i * j))) p.length
  | [], _ => rfl
  | c :: p, h => by
    have h' : Low p := fun c hc => h c (List.mem_cons_of_mem _ hc)
    have hc := h c (by simp)
    have hg : ∀ i, p.getD i 0 < 128 := fun i => by
      rw [List.getD_eq_getElem?_getD]
      by_cases hi : i < p.length
      · rw [List.getElem?_eq_getElem hi]; exact h' _ (List.getElem_mem hi)
      · rw [List.getElem?_eq_none (by omega)]; decide
    rw [List.length_cons, xs_left, ev, ev_xs j p h', Nat.xor_comm, mul_comm, xs_mul _ _ _ (ex_lt _) fun i _ => mul_lt _ _]
    congr 1
    · simp only [List.getD_cons_zero, Nat.zero_mul]
      rw [ex_zero, mul_one c hc]
    · refine xs_congr _ fun i _ => ?_
      rw [List.getD_cons_succ, mul_comm (ex j), ← mul_assoc _ _ _ (hg i) (ex_lt _) (ex_lt _), mul_ex]
      congr 2
      rw [Nat.add_mul, Nat.one_mul]
/-- The powers at which each codeword is 0. -/
def rt (x : Nat) : Bool := (List.range 20).any fun i => (List.range 7).any fun k => ex ((i + 1) * 2 ^ k) == x
theorem rt_many : (List.range 128).countP rt = 63 := by decide +kernel
theorem low_zero (w : Nat → Bool) (hw : Cw w) (h : ∀ i, 63 ≤ i → i < 127 → w i = false) : ∀ i, i < 127 → w i = false := by
  have hp : Low ((List.range 63).map fun i => bt (w i) 1) := by
    intro c hc
    obtain ⟨i, _, rfl⟩ := List.mem_map.1 hc
    exact bt_lt _ _ (by decide)
  have hev : ∀ j, ev ((List.range 63).map fun i => bt (w i) 1) (ex j) = syn w j := by
    intro j
    rw [ev_xs j _ hp, List.length_map, List.length_range]
    unfold syn
    rw [xs_cut _ 63 127 (by omega) fun i h1 h2 => by rw [h i h1 h2]; rfl]
    refine xs_congr _ fun i hi => ?_
    have : ((List.range 63).map fun i => bt (w i) 1).getD i 0 = bt (w i) 1 := by
      simp [List.getD_eq_getElem?_getD, List.getElem?_range hi]
    rw [this, mul_comm, bt_mul, mul_one _ (ex_lt _)]
  by_cases hz : ∀ c ∈ (List.range 63).map (fun i => bt (w i) 1), c = 0
  · intro i hi
    by_cases h63 : 63 ≤ i
    · exact h i h63 hi
    · have := hz _ (List.mem_map.2 ⟨i, List.mem_range.2 (by omega), rfl⟩)
      cases hwi : w i
      · rfl
      · rw [hwi] at this; simp [bt] at this
  · exfalso
    have h1 := roots 63 _ (by rw [List.length_map, List.length_range]) hp hz
    have h2 : (List.range 128).countP rt ≤ zeros ((List.range 63).map fun i => bt (w i) 1) := by
      unfold zeros
      refine List.countP_mono_left fun x _ hx => ?_
      unfold rt at hx
      obtain ⟨i, hi, hx⟩ := List.any_eq_true.1 hx
      obtain ⟨k, hk, hx⟩ := List.any_eq_true.1 hx
      have e : ex ((i + 1) * 2 ^ k) = x := by simpa using hx
      rw [← e, hev, syn_pow w (i + 1) k (hw _ (by omega) (by have := List.mem_range.1 hi; omega))]
      rfl
    rw [rt_many] at h2
    omega
/-- Two codewords with the same upper bits are one. -/
theorem Cw.unique {v w : Nat → Bool} (hv : Cw v) (hw : Cw w) (h : ∀ i, 63 ≤ i → i < 127 → v i = w i) : ∀ i, i < 127 → v i = w i := by
  intro i hi
  have := low_zero _ (hv.xor hw) (fun i h1 h2 => by rw [h i h1 h2]; simp) i hi
  simpa using this
/-- The product of the distances to T. -/
def away (T : List Nat) (i : Nat) : Nat := T.foldr (fun t acc => mul (ex i ^^^ ex t) acc) (ex i)
theorem away_lt (T : List Nat) (i : Nat) : away T i < 128 := by
  cases T with
  | nil => exact ex_lt _
  | cons t T => exact mul_lt _ _
theorem away_sum (w : Nat → Bool) (hw : Cw w) : ∀ T : List Nat, ∀ m, m + T.length < 20 → xs (fun i => bt (w i) (mul (ex (i * m)) (away T i))) 127 = 0
  | [], m, h => by
    have := hw (m + 1) (by omega) (by simp at h; omega)
    unfold syn at this
    rw [← this]
    refine xs_congr _ fun i _ => ?_
    unfold away
    rw [List.foldr_nil, mul_ex]
    congr 2
  | t :: T, m, h => by
    rw [List.length_cons] at h
    have h1 := away_sum w hw T (m + 1) (by omega)
    have h2 := away_sum w hw T m (by omega)
    have e : ∀ i, i < 127 → bt (w i) (mul (ex (i * m)) (away (t :: T) i)) = bt (w i) (mul (ex (i * (m + 1))) (away T i)) ^^^ mul (ex t) (bt (w i) (mul (ex (i * m)) (away T i))) := by
      intro i _
      rw [bt_mul]
      cases w i
      · simp [bt]
      · simp only [bt, if_true]
        show mul (ex (i * m)) (mul (ex i ^^^ ex t) (away T i)) = _
        have la := away_lt T i
        rw [xor_mul _ _ _ la (ex_lt _) (ex_lt _), mul_xor _ _ _ (ex_lt _) (mul_lt _ _) (mul_lt _ _), mul_assoc _ _ _ (ex_lt _) (ex_lt _) la, mul_ex, mul_assoc _ _ _ (ex_lt _) (ex_lt _) la, mul_comm (ex (i * m)) (ex t), ← mul_assoc _ _ _ (ex_lt _) (ex_lt _) la]
        rfl
    rw [xs_congr _ e, xs_xor, h1, ← xs_mul _ _ _ (ex_lt _) fun i _ => bt_lt _ _ (mul_lt _ _), h2, mul_zero]
    rfl
theorem away_zero (T : List Nat) (i : Nat) (h : i ∈ T) : away T i = 0 := by
  induction T with
  | nil => simp at h
  | cons t T ih =>
    show mul (ex i ^^^ ex t) (away T i) = 0
    rcases List.mem_cons.1 h with e | e
    · rw [e, Nat.xor_self, zero_mul]
    · rw [ih e, mul_zero]
theorem ex_inj' (i j : Nat) (hi : i < 127) (hj : j < 127) (h : ex i = ex j) : i = j := by
  have := congrArg lg h
  rw [lg_ex, lg_ex] at this; omega
theorem away_ne (T : List Nat) (i : Nat) (hi : i < 127) (h : ∀ t ∈ T, t < 127 ∧ t ≠ i) : away T i ≠ 0 := by
  induction T with
  | nil => have := ex_pos i; show ex i ≠ 0; omega
  | cons t T ih =>
    show mul (ex i ^^^ ex t) (away T i) ≠ 0
    intro hz
    rcases (mul_eq_zero _ _ (xor_lt _ _ (ex_lt _) (ex_lt _)) (away_lt _ _)).1 hz with e | e
    · have e' : ex i = ex t := by
        have h3 : (ex i ^^^ ex t) ^^^ ex t = 0 ^^^ ex t := by rw [e]
        rw [Nat.xor_assoc, Nat.xor_self, Nat.xor_zero, Nat.zero_xor] at h3
        exact h3
      have h1 := h t (by simp)
      exact h1.2 (ex_inj' i t hi h1.1 e').symm
    · exact ih (fun t ht => h t (List.mem_cons_of_mem _ ht)) e
/-- A codeword with few bits has none. -/
theorem few_zero (w : Nat → Bool) (hw : Cw w) (h : (List.range 127).countP w ≤ 20) : ∀ i, i < 127 → w i = false := by
  intro a ha
  cases hwa : w a
  · rfl
  · exfalso
    have hS : a ∈ (List.range 127).filter w := List.mem_filter.2 ⟨List.mem_range.2 ha, hwa⟩
    have hT : (((List.range 127).filter w).filter (fun t => t != a)).length < ((List.range 127).filter w).length :=
      List.length_filter_lt_length_iff_exists.2 ⟨a, hS, by simp⟩
    have hc : ((List.range 127).filter w).length = (List.range 127).countP w := List.countP_eq_length_filter.symm
    rw [hc] at hT
    have h0 := away_sum w hw (((List.range 127).filter w).filter (fun t => t != a)) 0 (by omega)
    rw [xs_one _ 127 a ha] at h0
    · rw [hwa, Nat.mul_zero, ex_zero, one_mul _ (away_lt _ _)] at h0
      refine away_ne _ a ha (fun t ht => ?_) h0
      obtain ⟨h1, h2⟩ := List.mem_filter.1 ht
      exact ⟨List.mem_range.1 (List.mem_filter.1 h1).1, by simpa using h2⟩
    · intro i hi hne
      cases hwi : w i
      · rfl
      · simp only [bt, if_true]
        rw [away_zero _ i (List.mem_filter.2 ⟨List.mem_filter.2 ⟨List.mem_range.2 hi, hwi⟩, by simpa using hne⟩), mul_zero]
/-- Unlike codewords are unlike in 21 bits at least. -/
theorem Cw.far {v w : Nat → Bool} (hv : Cw v) (hw : Cw w) (h : (List.range 127).countP (fun i => v i != w i) ≤ 20) : ∀ i, i < 127 → v i = w i := by
  intro i hi
  have := few_zero _ (hv.xor hw) h i hi
  simpa using this
/-- The generator's bits. -/
def GB : List Nat := [1, 0, 1, 0, 0, 1, 0, 0, 0, 0, 0, 0, 0, 0, 0, 1, 0, 0, 1, 1, 0, 1, 1, 1, 1, 1, 1, 0, 0, 0, 1, 1, 1, 1, 0, 1, 1, 0, 1, 0, 1, 0, 0, 0, 0, 0, 0, 1, 1, 1, 0, 1, 0, 1, 0, 1, 1, 0, 0, 0, 0, 1, 0, 1]
/-- A multiple of the generator is taken away. -/
def sub (f : Nat → Bool) (s : Nat) : Nat → Bool := fun m => f m != (decide (s ≤ m) && decide (m < s + 64) && (GB.getD (m - s) 0 == 1))
def gw : Nat → Bool := fun k => decide (k < 64) && (GB.getD k 0 == 1)
theorem gw_cw : Cw gw := by
  have h : ∀ j, j < 21 → 1 ≤ j → syn gw j = 0 := by decide +kernel
  intro j h1 h2
  exact h j (by omega) h1
theorem sub_syn (f : Nat → Bool) (s : Nat) (hs : s ≤ 63) (j : Nat) (h1 : 1 ≤ j) (h2 : j ≤ 20) : syn (sub f s) j = syn f j := by
  have h := syn_xor f (rotN gw s) j
  rw [gw_cw.rot s j h1 h2, Nat.xor_zero] at h
  rw [← h]
  refine syn_congr (fun m hm => ?_) j
  unfold sub
  congr 1
  obtain ⟨i, hi, he⟩ : ∃ i, i < 127 ∧ (i + s) % 127 = m := ⟨(m + 127 - s) % 127, Nat.mod_lt _ (by omega), by omega⟩
  rw [← he, rotN_at gw s i hi, he]
  unfold gw
  by_cases hsm : s ≤ m
  · have e : i = m - s := by omega
    subst e
    simp [hsm, show (m < s + 64 ↔ m - s < 64) by omega]
  · have : ¬ i < 64 := by omega
    simp [hsm, this]
end F7
end Go.Proofs.Ythponlnklmhbeaa
