/- The document's act on a list: the walk of ref.Do, deed by deed. -/
import Derived.Test.YthoemgiadadfcaaDoorRdRef
import Derived.Test.YthoemgiadadfcaaDoorRegC
set_option linter.unusedVariables false
set_option linter.unusedSimpArgs false
namespace Go.Proofs.YthoemgiadadfcaaDoor
open Go.RowKit Go.Sort Rd
attribute [local go_sem] Oper.semAt_some
/-- What ref.Do leaves. -/
def Rx (w : World) (xs : List It) (e : Ending) (w' : World) : Prop := ∃ v', e = .returned v' ∧ Rr w' 2 lc v' xs ∧ Below w.heap.size w w'
theorem ne_facts {k i : Nat} (h : k ≠ i) : ((k : Int) == (i : Int)) = false ∧ (k == i) = false := ⟨by simp; omega, by simpa using h⟩
theorem lc_cells {w : World} {g o k : Nat} {x : It} (h : ∀ j u, (lc x)[j]? = some u → w.cell? ⟨g, o + k * 2 + j, none⟩ = some u) : w.cell? ⟨g, o + k * 2, none⟩ = some (.string x.1) ∧ w.cell? ⟨g, o + k * 2 + 1, none⟩ = some (.int .i64 x.2) := ⟨h 0 _ rfl, h 1 _ rfl⟩
theorem Keep.below' {B : Nat} {w0 w w1 : World} {F : List Nat} (h : Keep w w1 F) (hb : Below B w0 w) (hB : B ≤ w.heap.size) (hF : ∀ j ∈ F, B ≤ j) : Below B w0 w1 :=
  hb.trans ⟨h.os, h.tape, h.output, h.size, fun j hj => h.block j (Nat.lt_of_lt_of_le hj hB) (fun hf => by have := hF j hf; omega)⟩
theorem conv_block (q : Nat) (x : Int) (w : World) (hq : w.heap[q]? = some (.cells #[.int .u8 x] 5 (0, 0))) : (convert 61 9 (.slice (some ⟨q, 0, none⟩) 1 1)).run Tryd.prog w = .ok (.string (strOfNums [x])) w :=
  run_convert_bytes_arg w 61 5 Tryd.underlying61 Tryd.underlying5 q 0 1 1 [x] rfl (fun i hi => by
    rw [Nat.zero_add, cell_of_row _ _ _ _ 5 (0, 0) hq]
    match i, hi with
    | 0, _ => rfl) 9 Tryd.underlying9
theorem St2.st21 {w : World} {d : Nat → Bool} {vs : List (Nat × Value × Value)} {S0 S1 : World → Prop} {i j : Nat} {pre : List Nat} (h : St2 w d vs S0 S1 S1 i j pre) (hd : d i = true) : S1 w := by
  have := h.st
  rw [if_pos hd] at this
  split at this <;> exact this
theorem strNums_app (a b : List Int) : strOfNums a ++ strOfNums b = strOfNums (a ++ b) := by
  apply ByteArray.ext
  apply Array.toList_inj.1
  rw [ByteArray.data_append, Array.toList_append, strOfNums_data, strOfNums_data, strOfNums_data, List.map_append]
theorem ints_get (s : ByteArray) (j : Nat) (h : j < s.size) : (ints s)[j]?.getD 0 = (s[j].toNat : Int) := by
  have h' : j < s.data.toList.length := by rw [Array.length_toList]; exact h
  simp [ints, bs, List.getElem?_eq_getElem h']
  rfl
theorem ints_u8 (s : ByteArray) : (ints s).map (fun n => UInt8.ofNat n.toNat) = s.data.toList := by
  simp only [ints, bs, List.map_map]
  conv => rhs; rw [← List.map_id s.data.toList]
  refine List.map_congr_left fun x _ => ?_
  simp
theorem ext_ints (s : ByteArray) (a b : Nat) (hb : b ≤ s.size) : s.extract a b = strOfNums (((ints s).take b).drop a) := by
  apply ByteArray.ext
  apply Array.toList_inj.1
  rw [strOfNums_data, List.map_drop, List.map_take, ints_u8]
  simp [ByteArray.data_extract, List.drop_take]
theorem index_str (s : ByteArray) (j : Nat) (h : j < s.size) (w : World) : (Instr.index 9 (.string s) (.int .i64 (j : Nat))).run Tryd.prog w = .ok (.int .u8 ((ints s)[j]?.getD 0)) w := by
  rw [run_index_string w 9 s .i64 j Tryd.underlying9, dif_pos (by omega), ints_get s j h]
  rfl
theorem spoil_eq (s : ByteArray) (j : Nat) (c : Int) (h : j < s.size) : s.extract 0 j ++ strOfNums [bits .xor .u8 ((ints s)[j]?.getD 0) (c % 256)] ++ s.extract (j + 1) s.size = spoilS j c s := by
  have hl := ints_length s
  rw [ext_ints s 0 j (by omega), ext_ints s (j + 1) s.size (Nat.le_refl _), strNums_app, strNums_app]
  unfold spoilS
  rw [List.drop_zero, List.take_of_length_le (l := ints s) (i := s.size) (by omega), List.set_eq_take_append_cons_drop, if_pos (by omega)]
  simp
end Go.Proofs.YthoemgiadadfcaaDoor
