/- A text's words, in plain numbers. -/
import Derived.WalkKit
set_option linter.unusedVariables false
set_option linter.unusedSimpArgs false
namespace Go.Proofs.YthmiomncgkmnoaaDoor
namespace Sip
/-- The number of bytes, the lowest first. -/
def le : List Nat → Nat
  | [] => 0
  | c :: l => c + 256 * le l
def Bytes (l : List Nat) : Prop := ∀ c ∈ l, c < 256
theorem Bytes.take {l : List Nat} (h : Bytes l) (n : Nat) : Bytes (l.take n) := fun c hc => h c (List.mem_of_mem_take hc)
theorem Bytes.drop {l : List Nat} (h : Bytes l) (n : Nat) : Bytes (l.drop n) := fun c hc => h c (List.mem_of_mem_drop hc)
theorem le_lt (l : List Nat) (h : Bytes l) : le l < 256 ^ l.length := by
  induction l with
  | nil => simp [le]
  | cons c l ih =>
    have h1 := h c (by simp)
    have h2 := ih fun c hc => h c (List.mem_cons_of_mem _ hc)
    rw [le, List.length_cons, Nat.pow_succ]; omega
theorem le_inj : ∀ l m : List Nat, Bytes l → Bytes m → l.length = m.length → le l = le m → l = m
  | [], [], _, _, _, _ => rfl
  | [], _ :: _, _, _, h, _ => by simp at h
  | _ :: _, [], _, _, h, _ => by simp at h
  | c :: l, d :: m, hl, hm, h, he => by
    have h1 := hl c (by simp)
    have h2 := hm d (by simp)
    simp only [le] at he
    rw [le_inj l m (fun c hc => hl c (List.mem_cons_of_mem _ hc)) (fun c hc => hm c (List.mem_cons_of_mem _ hc)) (by simpa using h) (by omega), show c = d by omega]
def wordsF (size : Nat) : Nat → List Nat → List Nat
  | 0, l => [le l + size * 2 ^ 56]
  | n + 1, l => le (l.take 8) :: wordsF size n (l.drop 8)
def words (l : List Nat) : List Nat := wordsF (l.length % 256) (l.length / 8) l
theorem wordsF_length (size n : Nat) : ∀ l, (wordsF size n l).length = n + 1 := by
  induction n with
  | zero => intro l; rfl
  | succ n ih => intro l; rw [wordsF, List.length_cons, ih]
theorem words_length (l : List Nat) : (words l).length = l.length / 8 + 1 := wordsF_length _ _ _
theorem wordsF_size (s t n : Nat) : ∀ l m, Bytes l → Bytes m → l.length < 8 * n + 8 → m.length < 8 * n + 8 → wordsF s n l = wordsF t n m → s = t := by
  induction n with
  | zero =>
    intro l m hl hm h1 h2 h
    simp only [wordsF, List.cons.injEq, and_true] at h
    have a1 := le_lt l hl
    have a2 := le_lt m hm
    have b1 : 256 ^ l.length ≤ 256 ^ 7 := Nat.pow_le_pow_right (by omega) (by omega)
    have b2 : 256 ^ m.length ≤ 256 ^ 7 := Nat.pow_le_pow_right (by omega) (by omega)
    omega
  | succ n ih =>
    intro l m hl hm h1 h2 h
    simp only [wordsF, List.cons.injEq] at h
    exact ih _ _ (hl.drop 8) (hm.drop 8) (by rw [List.length_drop]; omega) (by rw [List.length_drop]; omega) h.2
theorem wordsF_inj (s n : Nat) : ∀ l m, Bytes l → Bytes m → l.length = m.length → wordsF s n l = wordsF s n m → l = m := by
  induction n with
  | zero =>
    intro l m hl hm h1 h
    simp only [wordsF, List.cons.injEq, and_true] at h
    exact le_inj l m hl hm h1 (by omega)
  | succ n ih =>
    intro l m hl hm h1 h
    simp only [wordsF, List.cons.injEq] at h
    have h2 := le_inj _ _ (hl.take 8) (hm.take 8) (by rw [List.length_take, List.length_take, h1]) h.1
    have h3 := ih _ _ (hl.drop 8) (hm.drop 8) (by rw [List.length_drop, List.length_drop, h1]) h.2
    rw [← List.take_append_drop 8 l, ← List.take_append_drop 8 m, h2, h3]
theorem words_inj (l m : List Nat) (hl : Bytes l) (hm : Bytes m) (h1 : l.length ≤ 255) (h2 : m.length ≤ 255) (h : words l = words m) : l = m := by
  have hn : l.length / 8 = m.length / 8 := by
    have := congrArg List.length h
    rw [words_length, words_length] at this; omega
  unfold words at h
  rw [hn] at h
  have hs := wordsF_size _ _ _ l m hl hm (by omega) (by omega) h
  have hlen : l.length = m.length := by omega
  rw [hs] at h
  exact wordsF_inj _ _ l m hl hm hlen h
theorem le_append (l m : List Nat) : le (l ++ m) = le l + 256 ^ l.length * le m := by
  induction l with
  | nil => simp [le]
  | cons c l ih => rw [List.cons_append, le, ih, le, List.length_cons, Nat.pow_succ, Nat.mul_comm (256 ^ l.length) 256, Nat.mul_assoc, Nat.mul_add]; omega
theorem le_snoc (l : List Nat) (c : Nat) : le (l ++ [c]) = le l + 256 ^ l.length * c := by
  rw [le_append]; simp [le]
theorem wordsF_eq (s n : Nat) : ∀ l, wordsF s n l = (List.range n).map (fun i => le ((l.drop (8 * i)).take 8)) ++ [le (l.drop (8 * n)) + s * 2 ^ 56] := by
  induction n with
  | zero => intro l; rfl
  | succ n ih =>
    intro l
    rw [wordsF, ih, List.range_succ_eq_map, List.map_cons, List.map_map, List.cons_append]
    congr 1
    rw [List.drop_drop, show 8 + 8 * n = 8 * (n + 1) by omega]
    congr 1
    apply List.map_congr_left
    intro i _
    simp only [Function.comp_apply, List.drop_drop]
    rw [show 8 + 8 * i = 8 * (i + 1) by omega]
theorem over_inj (P a b s t : Nat) (ha : a < P) (hb : b < P) (h : a + s * P = b + t * P) : s = t := by
  have e1 : (a + s * P) / P = s := by rw [Nat.add_mul_div_right _ _ (by omega), Nat.div_eq_of_lt ha, Nat.zero_add]
  have e2 : (b + t * P) / P = t := by rw [Nat.add_mul_div_right _ _ (by omega), Nat.div_eq_of_lt hb, Nat.zero_add]
  rw [← e1, h, e2]
theorem le_tail (l : List Nat) (h : Bytes l) : le (l.drop (8 * (l.length / 8))) < 2 ^ 56 := by
  have h1 := le_lt _ (h.drop (8 * (l.length / 8)))
  have h2 : (l.drop (8 * (l.length / 8))).length ≤ 7 := by rw [List.length_drop]; omega
  have h3 : 256 ^ (l.drop (8 * (l.length / 8))).length ≤ 256 ^ 7 := Nat.pow_le_pow_right (by decide) h2
  have h4 : (256 : Nat) ^ 7 = 2 ^ 56 := by rw [show (256 : Nat) = 2 ^ 8 from rfl, ← Nat.pow_mul]
  rw [h4] at h3
  exact Nat.lt_of_lt_of_le h1 h3
theorem getD_snoc (xs : List Nat) (v n : Nat) (h : xs.length = n) : (xs ++ [v]).getD n 0 = v := by
  subst h
  rw [List.getD_eq_getElem?_getD, List.getElem?_append_right (Nat.le_refl _), Nat.sub_self]
  rfl
theorem words_last (l : List Nat) (n : Nat) (hn : n = l.length / 8) : (words l).getD n 0 = le (l.drop (8 * n)) + l.length % 256 * 2 ^ 56 := by
  subst hn
  unfold words
  rw [wordsF_eq]
  exact getD_snoc _ _ _ (by rw [List.length_map, List.length_range])
theorem bytes_zero (l : List Nat) (h : Bytes l) : Bytes (l ++ [0]) := by
  intro c hc
  rcases List.mem_append.1 hc with h1 | h1
  · exact h c h1
  · rw [List.mem_singleton.1 h1]; decide
theorem end_arith (n : Nat) (hl : n ≤ 250) (he : (n + 1) / 8 + 1 = n / 8 + 1) : (n + 1) / 8 = n / 8 ∧ n % 256 ≠ (n + 1) % 256 := by omega
theorem last_ne (l m : List Nat) (P n : Nat) (t1 : le l < P) (t2 : le m < P) (s t : Nat) (hne : s ≠ t) : le m + t * P ≠ le l + s * P :=
  fun hh => hne (over_inj P _ _ _ _ t2 t1 hh).symm
theorem words_longer (l : List Nat) (h : Bytes l) (hl : l.length ≤ 250) (he : (words (l ++ [0])).length = (words l).length) :
    (words (l ++ [0])).getD (l.length / 8) 0 ≠ (words l).getD (l.length / 8) 0 := by
  have hla : (l ++ [0]).length = l.length + 1 := by rw [List.length_append, List.length_singleton]
  rw [words_length, words_length, hla] at he
  obtain ⟨hd, hne⟩ := end_arith _ hl he
  have hda : l.length / 8 = (l ++ [0]).length / 8 := by rw [hla, hd]
  have t1 := le_tail l h
  have t2 := le_tail (l ++ [0]) (bytes_zero l h)
  rw [← hda] at t2
  rw [words_last l _ rfl, words_last (l ++ [0]) _ hda]
  rw [← hla] at hne
  exact last_ne _ _ (2 ^ 56) 0 t1 t2 _ _ hne
end Sip
end Go.Proofs.YthmiomncgkmnoaaDoor
