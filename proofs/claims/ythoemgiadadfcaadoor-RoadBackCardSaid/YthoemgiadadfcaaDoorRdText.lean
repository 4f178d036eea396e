/- What is written is read, and the other way about: plain laws. -/
import Derived.Test.YthoemgiadadfcaaDoorRdWrite
set_option linter.unusedVariables false
set_option linter.unusedSimpArgs false
namespace Go.Proofs.YthoemgiadadfcaaDoor
open Go.RowKit Go.Sort
namespace Rd
theorem suffix_ten (B : List UInt8) : Lib.hasSuffix (B ++ [10]) [10] = true := by
  unfold Lib.hasSuffix
  rw [List.isSuffixOf_iff_suffix]
  exact List.suffix_append _ _
theorem trim_ten (B : List UInt8) : Lib.trimSuffix (B ++ [10]) [10] = B := by
  unfold Lib.trimSuffix
  rw [if_pos (suffix_ten B)]
  simp
theorem suffix_join {l : List UInt8} (h : Lib.hasSuffix l [10] = true) : Lib.trimSuffix l [10] ++ [10] = l := by
  have h' := h
  unfold Lib.hasSuffix at h'
  rw [List.isSuffixOf_iff_suffix] at h'
  obtain ⟨B, rfl⟩ := h'
  rw [trim_ten]
theorem sp_join : ∀ l : List UInt8, (sp l).headD [] ++ (sp l).tail.flatMap (fun p => 32 :: p) = l
  | [] => rfl
  | b :: l => by
    have ih := sp_join l
    by_cases hb : b = 32
    · subst hb
      rw [show sp (32 :: l) = [] :: sp l from by rw [sp, if_pos rfl]]
      cases hs : sp l with
      | nil => exact absurd hs (sp_ne l)
      | cons h t =>
        rw [hs] at ih
        simp only [List.headD_cons, List.tail_cons, List.flatMap_cons, List.nil_append, List.cons_append] at ih ⊢
        rw [ih]
    · have hs' : sp (b :: l) = (match sp l with | h :: t => (b :: h) :: t | [] => [[b]]) := by rw [sp, if_neg hb]; rfl
      cases hs : sp l with
      | nil => exact absurd hs (sp_ne l)
      | cons h t =>
        rw [hs] at ih hs'
        rw [hs']
        simp only [List.headD_cons, List.tail_cons, List.cons_append] at ih ⊢
        rw [ih]
theorem lns_join : ∀ l : List UInt8, (lns l).flatten = l
  | [] => rfl
  | b :: l => by
    have ih := lns_join l
    by_cases hb : b = 10
    · subst hb
      rw [show lns (10 :: l) = [10] :: lns l from by rw [lns, if_pos rfl], List.flatten_cons, ih]; rfl
    · have hs' : lns (b :: l) = (match lns l with | h :: t => (b :: h) :: t | [] => [[b]]) := by rw [lns, if_neg hb]; rfl
      cases hs : lns l with
      | nil =>
        rw [hs] at ih hs'
        rw [hs', ← ih]; rfl
      | cons h t =>
        rw [hs] at ih hs'
        rw [hs', ← ih]; rfl
theorem numP_dec {p : List UInt8} (h : (numP p).2 ≠ false) : decI (numP p).1 = p := by
  unfold numP at h ⊢
  split
  · rename_i hd
    rw [if_pos hd] at h
    simp only [ne_eq, decide_eq_false_iff_not, Classical.not_not] at h
    exact h
  · rename_i hd
    rw [if_neg hd] at h
    exact absurd rfl h
theorem at_acc (w : ByteArray) (ns : List Int) (i : Nat) (hi : i < 3) : at3 (accL w ns) i = ns.getD i 0 := by
  match i, hi with
  | 0, _ => rfl
  | 1, _ => rfl
  | 2, _ => rfl
theorem numB_acc (w : ByteArray) : ∀ (pt : List (List UInt8)), pt.length ≤ 3 → (∀ p ∈ pt, (numP p).2 ≠ false) → ∀ j, j ≤ pt.length →
    numB (accL w (pt.map fun p => (numP p).1)) j = (pt.take j).flatMap fun p => 32 :: p
  | pt, h3, hp, 0, _ => rfl
  | pt, h3, hp, j + 1, hj => by
    rw [numB_succ, numB_acc w pt h3 hp j (by omega), at_acc _ _ _ (by omega), List.getD_eq_getElem?_getD, List.getElem?_map, List.take_add_one, List.getElem?_eq_getElem (show j < pt.length by omega)]
    simp only [Option.map_some, Option.getD_some, Option.toList_some, List.flatMap_append, List.flatMap_cons, List.flatMap_nil, List.append_nil]
    rw [numP_dec (hp _ (List.getElem_mem _))]
/-- A line that is read is written so. -/
theorem line_back (x : List UInt8) (h : (lineP x).2 = 0) : lineW (lineP x).1 = x ∧ wrg (lineP x).1 = 0 := by
  unfold lineP at h ⊢
  split at h
  · exact absurd h (by simp)
  · rename_i hk
    rw [if_neg hk]
    split at h
    · exact absurd h (by simp)
    · rename_i hn
      rw [if_neg hn]
      split at h
      · exact absurd h (by simp)
      · rename_i hp
        rw [if_neg hp]
        refine ⟨?_, h⟩
        have hn1 : (sp (Lib.trimSuffix x [10])).tail.length = nums (kd (str ((sp (Lib.trimSuffix x [10])).headD []))) := Classical.byContradiction fun e => hn (.inl e)
        have hn2 : Lib.hasSuffix x [10] = true := by
          cases he : Lib.hasSuffix x [10] with
          | true => rfl
          | false => exact absurd (.inr he) hn
        have hp1 : ∀ p ∈ (sp (Lib.trimSuffix x [10])).tail, (numP p).2 ≠ false := fun p hm e => hp ⟨p, hm, e⟩
        have hj := sp_join (Lib.trimSuffix x [10])
        have hl := suffix_join hn2
        generalize Lib.trimSuffix x [10] = T at *
        generalize hps : sp T = ps at *
        unfold lineW
        rw [show (accL (str (ps.headD [])) (ps.tail.map fun p => (numP p).1)).w = str (ps.headD []) from rfl, ← hn1, numB_acc _ _ (by rw [hn1]; exact nums_le _) hp1 _ (Nat.le_refl _), List.take_length, str_toList, hj, hl]
theorem goP_back : ∀ (ls : List (List UInt8)) (n : Nat) (acc : List Ac), (goP ls n acc).2.2 = 0 → (∀ x ∈ acc, wrg x = 0) →
    (goP ls n acc).2.1 = 0 ∧ writeL (goP ls n acc).1 = writeL acc ++ ls.flatten ∧ (∀ x ∈ (goP ls n acc).1, wrg x = 0) ∧ (goP ls n acc).1.length = acc.length + ls.length
  | [], n, acc, _, ha => ⟨rfl, by simp [goP], ha, by simp [goP]⟩
  | x :: ls, n, acc, h, ha => by
    unfold goP at h ⊢
    split at h
    · rename_i hx
      rw [if_pos hx]
      obtain ⟨h1, h2⟩ := line_back x hx
      have ha' : ∀ y ∈ acc ++ [(lineP x).1], wrg y = 0 := fun y hy => by
        rcases List.mem_append.1 hy with h9 | h9
        · exact ha y h9
        · rw [List.mem_singleton.1 h9]; exact h2
      obtain ⟨g1, g2, g3, g4⟩ := goP_back ls (n + 1) _ h ha'
      refine ⟨g1, ?_, g3, ?_⟩
      · rw [g2]
        simp [writeL, h1]
      · rw [g4]; simp; omega
    · rename_i hx
      exact absurd h hx
theorem goP_bad : ∀ (ls : List (List UInt8)) (n : Nat) (acc : List Ac), (goP ls n acc).2.2 ≠ 0 → (goP ls n acc).1 = [] ∧ 1 ≤ (goP ls n acc).2.1
  | [], n, acc, h => absurd rfl h
  | x :: ls, n, acc, h => by
    unfold goP at h ⊢
    split at h
    · rename_i hx
      rw [if_pos hx]
      exact goP_bad ls (n + 1) _ h
    · rename_i hx
      rw [if_neg hx]
      exact ⟨rfl, by simp⟩
theorem lns_length : ∀ l : List UInt8, (lns l).length ≤ l.length
  | [] => Nat.le_refl _
  | b :: l => by
    have ih := lns_length l
    by_cases hb : b = 10
    · subst hb
      rw [show lns (10 :: l) = [10] :: lns l from by rw [lns, if_pos rfl]]
      simpa using ih
    · have hs' : lns (b :: l) = (match lns l with | h :: t => (b :: h) :: t | [] => [[b]]) := by rw [lns, if_neg hb]; rfl
      cases hs : lns l with
      | nil => rw [hs] at hs'; rw [hs']; simp
      | cons h t => rw [hs] at hs' ih; rw [hs']; simp only [List.length_cons] at ih ⊢; omega
/-- RoadOnly. -/
theorem parse_only (l : List UInt8) (hl : l.length ≤ 3000) (h : (parseP l).2.2 = 0) : (parseP l).2.1 = 0 ∧ writeL (parseP l).1 = l ∧ (∀ x ∈ (parseP l).1, wrg x = 0) ∧ (parseP l).1.length ≤ 3000 := by
  unfold parseP at h ⊢
  rw [if_neg (by omega)] at h ⊢
  obtain ⟨g1, g2, g3, g4⟩ := goP_back _ _ _ h (by simp)
  refine ⟨g1, ?_, g3, ?_⟩
  · rw [g2, lns_join]; rfl
  · rw [g4]
    have := lns_length l
    simp; omega
theorem parse_not (l : List UInt8) (hl : l.length ≤ 3000) (h : (parseP l).2.2 ≠ 0) : (parseP l).1 = [] ∧ 1 ≤ (parseP l).2.1 := by
  unfold parseP at h ⊢
  rw [if_neg (by omega)] at h ⊢
  exact goP_bad _ _ _ h
end Rd
end Go.Proofs.YthoemgiadadfcaaDoor
