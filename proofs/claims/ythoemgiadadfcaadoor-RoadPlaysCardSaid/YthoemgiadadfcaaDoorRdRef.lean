/- The document's act on a list: plain, and the walk of ref.Do. -/
import Derived.Test.YthoemgiadadfcaaDoorRdTrace
set_option linter.unusedVariables false
set_option linter.unusedSimpArgs false
namespace Go.Proofs.YthoemgiadadfcaaDoor
open Go.RowKit Go.Sort Rd
attribute [local go_sem] Oper.semAt_some
namespace Rd
abbrev zI : It := (ByteArray.empty, 0)
def runF (rd : Nat → List It) (n : Nat) : List It := (List.range n).flatMap rd
theorem runF_succ (rd : Nat → List It) (n : Nat) : runF rd (n + 1) = runF rd n ++ rd n := by simp [runF, List.range_succ]
theorem runF_len (rd : Nat → List It) (h : ∀ n, (rd n).length ≤ 2) : ∀ n, (runF rd n).length ≤ 2 * n
  | 0 => by simp [runF]
  | n + 1 => by have h1 := runF_len rd h n; have h2 := h n; rw [runF_succ, List.length_append]; omega
theorem runF_map (g : Nat → It) (n : Nat) : runF (fun k => [g k]) n = (List.range n).map g := by
  unfold runF
  induction n with
  | zero => rfl
  | succ n ih => rw [List.range_succ, List.flatMap_append, List.map_append, ih]; rfl
theorem takeD {xs : List It} {n : Nat} (h : n < xs.length) : xs.take (n + 1) = xs.take n ++ [xs.getD n zI] := by
  rw [List.take_add_one, List.getD_eq_getElem?_getD, List.getElem?_eq_getElem h]; rfl
def rdDrop (i : Nat) (xs : List It) (n : Nat) : List It := if n = i then [] else [xs.getD n zI]
theorem rdDrop_is (i : Nat) (xs : List It) : ∀ n, n ≤ xs.length → runF (rdDrop i xs) n = if n ≤ i then xs.take n else (xs.take n).eraseIdx i
  | 0, _ => by simp [runF]
  | n + 1, h => by
    rw [runF_succ, rdDrop_is i xs n (by omega), takeD (by omega)]
    unfold rdDrop
    have hl : (xs.take n).length = n := by rw [List.length_take]; omega
    by_cases h1 : n < i
    · rw [if_pos (by omega), if_neg (by omega), if_pos (by omega)]
    · by_cases h2 : n = i
      · subst h2
        rw [if_pos (Nat.le_refl _), if_pos rfl, if_neg (by omega), List.eraseIdx_append_of_length_le (by omega), hl]
        simp
      · rw [if_neg (by omega), if_neg h2, if_neg (by omega), List.eraseIdx_append_of_lt_length (by omega)]
def rdTwice (i : Nat) (xs : List It) (n : Nat) : List It := if n = i then [xs.getD n zI, xs.getD n zI] else [xs.getD n zI]
theorem rdTwice_is (i : Nat) (xs : List It) : ∀ n, n ≤ xs.length → runF (rdTwice i xs) n = if n ≤ i then xs.take n else insL (xs.take n) (i + 1) (xs.getD i zI)
  | 0, _ => by simp [runF]
  | n + 1, h => by
    rw [runF_succ, rdTwice_is i xs n (by omega), takeD (by omega)]
    unfold rdTwice
    have hl : (xs.take n).length = n := by rw [List.length_take]; omega
    by_cases h1 : n < i
    · rw [if_pos (by omega), if_neg (by omega), if_pos (by omega)]
    · by_cases h2 : n = i
      · subst h2
        rw [if_pos (Nat.le_refl _), if_pos rfl, if_neg (by omega)]
        have e9 : (xs.take n ++ [xs.getD n zI]).length = n + 1 := by rw [List.length_append, hl]; rfl
        have e8 : insL (xs.take n ++ [xs.getD n zI]) (n + 1) (xs.getD n zI) = (xs.take n ++ [xs.getD n zI]) ++ [xs.getD n zI] := by
          unfold insL
          rw [List.take_of_length_le (l := xs.take n ++ [xs.getD n zI]) (Nat.le_of_eq e9), List.drop_of_length_le (l := xs.take n ++ [xs.getD n zI]) (Nat.le_of_eq e9)]
        rw [e8, List.append_assoc]; rfl
      · rw [if_neg (by omega), if_neg h2, if_neg (by omega)]
        unfold insL
        rw [List.take_append_of_le_length (by omega), List.drop_append_of_le_length (by omega)]
        simp
def rdUpd (i : Nat) (f : It → It) (xs : List It) (n : Nat) : List It := [if n = i then f (xs.getD n zI) else xs.getD n zI]
theorem rdUpd_is (i : Nat) (f : It → It) (xs : List It) : runF (rdUpd i f xs) xs.length = xs.modify i f := by
  unfold rdUpd
  rw [runF_map]
  refine List.ext_getElem (by simp) fun n h1 h2 => ?_
  have hn : n < xs.length := by simpa using h1
  rw [List.getElem_map, List.getElem_range, List.getElem_modify, List.getD_eq_getElem?_getD, List.getElem?_eq_getElem hn, Option.getD_some]
  by_cases h : n = i
  · rw [if_pos h, if_pos h.symm]
  · rw [if_neg h, if_neg (fun e => h e.symm)]
def rdSwap (i j : Nat) (xs : List It) (n : Nat) : List It := [if n = j then xs.getD i zI else if n = i then xs.getD j zI else xs.getD n zI]
theorem rdSwap_is (i j : Nat) (xs : List It) (hi : i < xs.length) (hj : j < xs.length) : runF (rdSwap i j xs) xs.length = (xs.set i (xs.getD j zI)).set j (xs.getD i zI) := by
  unfold rdSwap
  rw [runF_map]
  refine List.ext_getElem (by simp) fun n h1 h2 => ?_
  have hn : n < xs.length := by simpa using h1
  rw [List.getElem_map, List.getElem_range, List.getElem_set, List.getElem_set]
  by_cases h : n = j
  · rw [if_pos h, if_pos h.symm]
  · rw [if_neg h, if_neg (show ¬ j = n from fun e => h e.symm)]
    by_cases h' : n = i
    · rw [if_pos h', if_pos h'.symm]
    · rw [if_neg h', if_neg (show ¬ i = n from fun e => h' e.symm), List.getD_eq_getElem?_getD, List.getElem?_eq_getElem hn, Option.getD_some]
def rdSame (xs : List It) (n : Nat) : List It := [xs.getD n zI]
theorem rdSame_is (xs : List It) : runF (rdSame xs) xs.length = xs := by
  unfold rdSame
  rw [runF_map]
  refine List.ext_getElem (by simp) fun n h1 h2 => ?_
  rw [List.getElem_map, List.getElem_range, List.getD_eq_getElem?_getD, List.getElem?_eq_getElem h2, Option.getD_some]
end Rd
theorem info41 : (Tryd.prog.info? 41).map (fun i => (i.zero, i.size, i.bytes)) = some (some (.agg #[.string ⟨#[]⟩, .int .i64 0]), 2, 24) := by kernel_rfl
def ArgA (x : Ac) : Value := .agg #[.string x.w, .int .i64 x.a, .int .i64 x.b, .int .i64 x.c]
/-- The five words told apart, as the walk spells them. -/
theorem words {s : ByteArray} : ((s = sDrop → (s.toList == [100, 114, 111, 112]) = true) ∧ (s ≠ sDrop → (s.toList == [100, 114, 111, 112]) = false)) ∧ ((s = sSwap → (s.toList == [115, 119, 97, 112]) = true) ∧ (s ≠ sSwap → (s.toList == [115, 119, 97, 112]) = false)) ∧
    ((s = sSpoil → (s.toList == [115, 112, 111, 105, 108]) = true) ∧ (s ≠ sSpoil → (s.toList == [115, 112, 111, 105, 108]) = false)) ∧ ((s = sTrim → (s.toList == [116, 114, 105, 109]) = true) ∧ (s ≠ sTrim → (s.toList == [116, 114, 105, 109]) = false)) ∧
    ((s = sTwice → (s.toList == [116, 119, 105, 99, 101]) = true) ∧ (s ≠ sTwice → (s.toList == [116, 119, 105, 99, 101]) = false)) :=
  ⟨⟨fun h => tl_yes h, fun h => tl_no h⟩, ⟨fun h => tl_yes h, fun h => tl_no h⟩, ⟨fun h => tl_yes h, fun h => tl_no h⟩, ⟨fun h => tl_yes h, fun h => tl_no h⟩, ⟨fun h => tl_yes h, fun h => tl_no h⟩⟩
set_option maxRecDepth 100000 in
set_option maxHeartbeats 1600000 in
theorem ref_out (v : Value) (xs : List It) (x : Ac) (w : World) (h : Rr w 2 lc v xs) (hn : xs.length ≤ 1000) (hi : ¬ inn x.a xs.length) :
    Calls Tryd.prog 15 #[v, ArgA x] w fun e w' => e = .returned v ∧ Below w.heap.size w w' := by
  obtain ⟨p, cap, rfl, hx⟩ := h
  clear hx
  obtain ⟨xw, xa, xb, xc⟩ := x
  unfold ArgA
  have hb1 : Below w.heap.size w (w.alloc (.cells #[.string xw, .int .i64 xa, .int .i64 xb, .int .i64 xc] 29)) := (Below.refl _ _).alloc (Nat.le_refl _) _
  have hn1 : (w.alloc (.cells #[.string xw, .int .i64 xa, .int .i64 xb, .int .i64 xc] 29)).heap[w.heap.size]? = some (.cells #[.string xw, .int .i64 xa, .int .i64 xb, .int .i64 xc] 29 (0, 0)) := heap_alloc_new w _
  have l1 : (w.alloc (.cells #[.string xw, .int .i64 xa, .int .i64 xb, .int .i64 xc] 29)).cell? ⟨w.heap.size, 1, none⟩ = some (.int .i64 xa) := cell_of_row _ _ 1 _ 29 (0, 0) hn1
  have l2 : (w.alloc (.cells #[.string xw, .int .i64 xa, .int .i64 xb, .int .i64 xc] 29)).cell? ⟨w.heap.size, 2, none⟩ = some (.int .i64 xb) := cell_of_row _ _ 2 _ 29 (0, 0) hn1
  have HB1 := Lib.hid hb1
  clear hn1 hb1
  by_cases h0 : 0 ≤ xa
  · have h1 : ¬ xa < (xs.length : Int) := fun h1 => hi ⟨h0, h1⟩
    clear hi
    go_enter Tryd.func15, Tryd.ntmps15
    go_wp2_with (go_quiet (fail))
    go_ret
    exact ⟨rfl, below_drewN HB1.out _⟩
  · clear hi
    go_enter Tryd.func15, Tryd.ntmps15
    go_wp2_with (go_quiet (fail))
    go_ret
    exact ⟨rfl, below_drewN HB1.out _⟩
end Go.Proofs.YthoemgiadadfcaaDoor
