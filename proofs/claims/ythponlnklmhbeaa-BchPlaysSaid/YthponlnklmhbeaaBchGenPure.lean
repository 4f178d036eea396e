/- The generator's numbers, as the program and as the document multiply them out. -/
import Derived.Test.YthponlnklmhbeaaBchPure
set_option linter.unusedVariables false
set_option linter.unusedSimpArgs false
namespace Go.Proofs.Ythponlnklmhbeaa
namespace F7
def prev (p : List Nat) (m : Nat) : Nat := if m = 0 then 0 else p.getD (m - 1) 0
/-- i rounds of a product by x + a. -/
def nx (p : List Nat) (a i : Nat) : List Nat := (List.range (p.length + 1)).map fun m => if m < i then prev p m ^^^ mul (p.getD m 0) a else if m = i then prev p m else 0
def times (p : List Nat) (a : Nat) : List Nat := nx p a p.length
theorem nx_length (p : List Nat) (a i : Nat) : (nx p a i).length = p.length + 1 := by simp [nx]
theorem nx_get (p : List Nat) (a i m : Nat) (hm : m < p.length + 1) : (nx p a i).getD m 0 = if m < i then prev p m ^^^ mul (p.getD m 0) a else if m = i then prev p m else 0 := by
  simp only [nx, List.getD_eq_getElem?_getD, List.getElem?_map, List.getElem?_range hm, Option.map_some, Option.getD_some]
theorem nx_zero (p : List Nat) (a : Nat) : nx p a 0 = List.replicate (p.length + 1) 0 := by
  apply List.ext_getElem
  · simp [nx]
  · intro j h1 h2
    simp only [nx, List.getElem_map, List.getElem_range, List.getElem_replicate]
    rw [if_neg (by omega)]
    split
    · rename_i h; subst h; rfl
    · rfl
theorem nx_step (p : List Nat) (a i : Nat) (hi : i < p.length) :
    ((nx p a i).set (i + 1) (0 ^^^ p.getD i 0)).set i (prev p i ^^^ mul (p.getD i 0) a) = nx p a (i + 1) := by
  apply List.ext_getElem
  · simp [nx]
  · intro j h1 h2
    have hj : j < p.length + 1 := by simpa [nx] using h2
    rw [List.getElem_set]
    by_cases e1 : i = j
    · subst e1
      rw [if_pos rfl]
      simp only [nx, List.getElem_map, List.getElem_range]
      rw [if_pos (by omega)]
    · rw [if_neg e1, List.getElem_set]
      by_cases e2 : i + 1 = j
      · subst e2
        rw [if_pos rfl]
        simp only [nx, List.getElem_map, List.getElem_range]
        rw [if_neg (by omega), Nat.zero_xor, if_pos trivial]
        unfold prev
        rw [if_neg (by omega), Nat.add_sub_cancel]
      · rw [if_neg e2]
        simp only [nx, List.getElem_map, List.getElem_range]
        by_cases h3 : j < i
        · rw [if_pos h3, if_pos (by omega)]
        · rw [if_neg h3, if_neg (by omega), if_neg (by omega), if_neg (by omega)]
theorem getD_low (p : List Nat) (hp : Low p) (i : Nat) : p.getD i 0 < 128 := by
  rw [List.getD_eq_getElem?_getD]
  by_cases hi : i < p.length
  · rw [List.getElem?_eq_getElem hi]; exact hp _ (List.getElem_mem hi)
  · rw [List.getElem?_eq_none (by omega)]; decide
theorem prev_lt (p : List Nat) (hp : Low p) (m : Nat) : prev p m < 128 := by
  unfold prev; split
  · decide
  · exact getD_low p hp _
theorem nx_low (p : List Nat) (hp : Low p) (a i : Nat) : Low (nx p a i) := by
  intro c hc
  obtain ⟨m, _, rfl⟩ := List.mem_map.1 hc
  have h1 := prev_lt p hp m
  split
  · exact xor_lt _ _ h1 (mul_lt _ _)
  · split
    · exact h1
    · decide
theorem times_length (p : List Nat) (a : Nat) : (times p a).length = p.length + 1 := nx_length _ _ _
theorem times_low (p : List Nat) (hp : Low p) (a : Nat) : Low (times p a) := nx_low p hp a _
/-- The logs of the roots, of the first i - 1 rows and j of the next. -/
def inRow (i j m : Nat) : Bool := (List.range j).any fun b => i * 2 ^ b % 127 == m
def rts (i j : Nat) : Nat → Bool := fun m => ((List.range (i - 1)).any fun a => inRow (a + 1) 7 m) || inRow i j m
theorem inRow_succ (i j m : Nat) : inRow i (j + 1) m = (inRow i j m || (i * 2 ^ j % 127 == m)) := by
  unfold inRow
  rw [List.range_succ, List.any_append, List.any_cons, List.any_nil, Bool.or_false]
theorem rts_step (i j : Nat) : rts i (j + 1) = fun m => if m = i * 2 ^ j % 127 then true else rts i j m := by
  funext m
  unfold rts
  rw [inRow_succ]
  by_cases e : m = i * 2 ^ j % 127
  · rw [if_pos e, e]; simp
  · have : (i * 2 ^ j % 127 == m) = false := by rw [beq_eq_false_iff_ne]; exact fun h => e h.symm
    rw [if_neg e, this, Bool.or_false]
theorem rts_row (i : Nat) (hi : 1 ≤ i) : rts i 7 = rts (i + 1) 0 := by
  funext m
  unfold rts
  rw [show i + 1 - 1 = (i - 1) + 1 by omega, List.range_succ, List.any_append, List.any_cons, List.any_nil, Bool.or_false, show i - 1 + 1 = i by omega]
  have : inRow (i + 1) 0 m = false := rfl
  rw [this, Bool.or_false]
theorem rts_zero : rts 1 0 = fun _ => false := by funext m; rfl
def RT : Nat → Bool := rts 21 0
def gen : Nat → List Nat
  | 0 => [1]
  | k + 1 => if RT k = true then times (gen k) (ex k) else gen k
theorem gen_low (k : Nat) : Low (gen k) := by
  induction k with
  | zero => intro c hc; simp [gen] at hc; omega
  | succ k ih =>
    rw [gen]; split
    · exact times_low _ ih _
    · exact ih
theorem gen_length (k : Nat) : 1 ≤ (gen k).length ∧ (gen k).length ≤ k + 1 := by
  induction k with
  | zero => exact ⟨Nat.le_refl _, Nat.le_refl _⟩
  | succ k ih =>
    rw [gen]; split
    · rw [times_length]; omega
    · omega
theorem gen_all : gen 127 = GB := by decide +kernel
/-- The document's way: a list of elements met, the last first. -/
def rpr : List Nat → List Nat
  | [] => [1]
  | a :: l => if l.contains a = true then rpr l else times (rpr l) a
def row7 (i : Nat) : Nat → List Nat → List Nat
  | 0, L => L
  | j + 1, L => ex (i * 2 ^ j) :: row7 i j L
def pre : Nat → List Nat
  | 0 => []
  | i + 1 => row7 (i + 1) 7 (pre i)
theorem rpr_low : ∀ l, Low (rpr l)
  | [] => by intro c hc; simp [rpr] at hc; omega
  | a :: l => by
    rw [rpr]; split
    · exact rpr_low l
    · exact times_low _ (rpr_low l) _
theorem rpr_length : ∀ l : List Nat, 1 ≤ (rpr l).length ∧ (rpr l).length ≤ l.length + 1
  | [] => ⟨Nat.le_refl _, Nat.le_refl _⟩
  | a :: l => by
    have := rpr_length l
    rw [rpr, List.length_cons]; split
    · omega
    · rw [times_length]; omega
theorem row7_length (i j : Nat) (L : List Nat) : (row7 i j L).length = L.length + j := by
  induction j with
  | zero => rfl
  | succ j ih => rw [row7, List.length_cons, ih]; omega
theorem pre_length (i : Nat) : (pre i).length = 7 * i := by
  induction i with
  | zero => rfl
  | succ i ih => rw [pre, row7_length, ih]; omega
theorem rpr_all : rpr (pre 20) = GB := by decide +kernel
end F7
end Go.Proofs.Ythponlnklmhbeaa
