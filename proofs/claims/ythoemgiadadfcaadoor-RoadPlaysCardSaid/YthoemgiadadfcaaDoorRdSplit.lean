/- strings.Split at one blank, plainly. -/
import Derived.Test.YthoemgiadadfcaaDoorRdNum
import Derived.Test.YthoemgiadadfcaaDoorRdFew
set_option linter.unusedVariables false
set_option linter.unusedSimpArgs false
namespace Go.Proofs.YthoemgiadadfcaaDoor
open Go.RowKit Go.Sort Rd
namespace Rd
/-- The pieces of a text between its blanks. -/
def sp : List UInt8 → List (List UInt8)
  | [] => [[]]
  | b :: l => if b = 32 then [] :: sp l else match sp l with
    | h :: t => (b :: h) :: t
    | [] => [[b]]
theorem sp_ne (l : List UInt8) : sp l ≠ [] := by
  cases l with
  | nil => simp [sp]
  | cons b l =>
    unfold sp
    split
    · simp
    · split <;> simp
theorem sp_spec : ∀ l : List UInt8, (Lib.indexByte l 32 = -1 ∧ sp l = [l]) ∨ ∃ i : Nat, Lib.indexByte l 32 = i ∧ i < l.length ∧ sp l = l.take i :: sp (l.drop (i + 1))
  | [] => .inl ⟨rfl, rfl⟩
  | b :: l => by
    by_cases hb : b = 32
    · subst hb
      exact .inr ⟨0, by simp [Lib.indexByte], by simp, by simp [sp]⟩
    · have hb' : ¬ (b == 32) = true := by simpa using hb
      rcases sp_spec l with ⟨h1, h2⟩ | ⟨i, h1, h2, h3⟩
      · left
        refine ⟨by unfold Lib.indexByte; rw [if_neg hb', h1]; rfl, ?_⟩
        unfold sp; rw [if_neg hb, h2]
      · right
        refine ⟨i + 1, ?_, by simpa using h2, ?_⟩
        · unfold Lib.indexByte
          rw [if_neg hb', h1, if_neg (by simp)]; omega
        · have hs : sp (b :: l) = (match sp l with | h :: t => (b :: h) :: t | [] => [[b]]) := by rw [sp, if_neg hb]
          rw [hs, h3]
          simp
theorem sp_mem : ∀ (l p : List UInt8), p ∈ sp l → p.length ≤ l.length
  | [], p, h => by simp [sp] at h; subst h; simp
  | b :: l, p, h => by
    unfold sp at h
    split at h
    · rcases List.mem_cons.1 h with rfl | h
      · simp
      · have := sp_mem l p h; simp; omega
    · split at h
      · rename_i h1 t1 he
        rcases List.mem_cons.1 h with rfl | h
        · have := sp_mem l h1 (by rw [he]; simp); simp; omega
        · have := sp_mem l p (by rw [he]; exact List.mem_cons_of_mem _ h); simp; omega
      · rename_i he; exact absurd he (sp_ne l)
theorem sp_length : ∀ l : List UInt8, (sp l).length ≤ l.length + 1
  | [] => by simp [sp]
  | b :: l => by
    have := sp_length l
    unfold sp
    split
    · simp; omega
    · split
      · rename_i h1 t1 he; rw [he] at this; simp at this ⊢; omega
      · simp
theorem splitK_sp : ∀ (fuel : Nat) (l : List UInt8), l.length < fuel → Lib.splitK [32] 0 (Lib.countFrom [32] fuel l) l = sp l
  | 0, l, h => by omega
  | fuel + 1, l, h => by
    unfold Lib.countFrom
    rw [Lib.index_one]
    rcases sp_spec l with ⟨h1, h2⟩ | ⟨i, h1, h2, h3⟩
    · rw [h1, h2]; rfl
    · rw [h1, if_neg (by simp), Nat.add_comm, Lib.splitK, Lib.index_one, h1, if_neg (by simp), h3]
      simp only [Int.toNat_natCast, Nat.add_zero, List.length_singleton]
      rw [splitK_sp fuel _ (by rw [List.length_drop]; omega)]
end Rd
/-- The library's one variable that strings.Split reads. -/
def Mx (w : World) : Prop := ∃ m, w.cell? ⟨0, 0, none⟩ = some (.int .i64 m)
theorem Mx.below {w w' : World} (h : Mx w) (hb : Below w.heap.size w w') : Mx w' := by
  obtain ⟨m, hm⟩ := h
  have h0 : 0 < w.heap.size := block_lt_of_cell hm
  exact ⟨m, (hb.cell (p := ⟨0, 0, none⟩) h0).trans hm⟩
theorem parts_eq (s : ByteArray) : (Lib.splitB ⟨#[32]⟩ 0 (Lib.countB s ⟨#[32]⟩) s) = (sp s.data.toList).map str := by
  have h := Lib.splitB_data ⟨#[32]⟩ 0 (Lib.countB s ⟨#[32]⟩) s
  have h2 : Lib.splitK [32] 0 (Lib.countB s ⟨#[32]⟩) s.data.toList = sp s.data.toList := splitK_sp _ _ (Nat.lt_succ_self _)
  have h3 : (Lib.splitB ⟨#[32]⟩ 0 (Lib.countB s ⟨#[32]⟩) s).map (·.data.toList) = sp s.data.toList := h.trans h2
  rw [← h3, List.map_map]
  conv => lhs; rw [← List.map_id (Lib.splitB _ _ _ _)]
  exact List.map_congr_left fun x _ => (str_data x).symm
theorem split_is (s : ByteArray) (w : World) (hm : Mx w) (hs : s.size ≤ 100000) : Calls Tryd.prog 38 #[.string s, .string ⟨#[32]⟩] w fun e w' =>
    ∃ a, e = .returned (.slice a ((sp s.data.toList).map str).length ((sp s.data.toList).map str).length) ∧ Rr w' 1 st (.slice a ((sp s.data.toList).map str).length ((sp s.data.toList).map str).length) ((sp s.data.toList).map str) ∧ Below w.heap.size w w' := by
  obtain ⟨m, hm⟩ := hm
  refine (Any.strings_Split { Tryd.laysM146 with } Tryd.laysM146.i9 s ⟨#[32]⟩ m w (by omega) hm (by decide)).mono ?_
  rintro e w' ⟨rfl, rfl⟩
  have hl : ((sp s.data.toList).map str).length = Lib.countB s ⟨#[32]⟩ + 1 := by
    rw [← parts_eq]
    exact Lib.splitB_all ⟨#[32]⟩ (by decide) 0 _ s rfl
  rw [hl]
  refine ⟨_, rfl, ⟨_, _, by rw [hl], .inr ⟨w.heap.size, 0, rfl, by simp, fun i x hi j u hj => ?_⟩⟩, (Below.refl _ _).alloc (Nat.le_refl _) _⟩
  have hb : (w.alloc (.cells ((Lib.splitB ⟨#[32]⟩ 0 (Lib.countB s ⟨#[32]⟩) s).map Value.string).toArray 9)).heap[w.heap.size]? = some (.cells ((Lib.splitB ⟨#[32]⟩ 0 (Lib.countB s ⟨#[32]⟩) s).map Value.string).toArray 9 (0, 0)) := heap_alloc_new w _
  match j, hj with
  | 0, hj =>
    obtain rfl : u = .string x := by simpa [st] using hj.symm
    show World.cell? (w.alloc (.cells ((Lib.splitB ⟨#[32]⟩ 0 (Lib.countB s ⟨#[32]⟩) s).map Value.string).toArray 9)) ⟨w.heap.size, 0 + i * 1 + 0, none⟩ = _
    rw [cell_of_row _ _ _ _ 9 (0, 0) hb, parts_eq, Nat.zero_add, Nat.mul_one, Nat.add_zero, List.getElem?_toArray, List.getElem?_map, hi]; rfl
  | j + 1, hj => simp [st] at hj
end Go.Proofs.YthoemgiadadfcaaDoor
