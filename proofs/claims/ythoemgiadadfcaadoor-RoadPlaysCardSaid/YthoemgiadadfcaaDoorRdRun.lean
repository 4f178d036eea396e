/- What acts do to a list: plain facts. -/
import Derived.Test.YthoemgiadadfcaaDoorRdOf
set_option linter.unusedVariables false
set_option linter.unusedSimpArgs false
namespace Go.Proofs.YthoemgiadadfcaaDoor
open Go.RowKit Go.Sort
namespace Rd
def deedK (k : Nat) (x : Ac) (xs : List It) : List It :=
  match k with
  | 0 => dropL x xs
  | 1 => twiceL x xs
  | 2 => swapL x xs
  | 3 => updL x.a (spoilF x.b x.c) xs
  | 4 => updL x.a (trimF x.b) xs
  | _ => xs
def deedL (x : Ac) (xs : List It) : List It := deedK (kd x.w) x xs
def initL (l : List ByteArray) : List It := l.zipIdx.map fun p => (p.1, (p.2 : Int))
def runL (l : List ByteArray) (acts : List Ac) : List It := acts.foldl (fun xs x => deedL x xs) (initL l)
theorem initL_snoc (l : List ByteArray) (s : ByteArray) : initL (l ++ [s]) = initL l ++ [(s, (l.length : Int))] := by
  simp [initL, List.zipIdx_append]
theorem initL_length (l : List ByteArray) : (initL l).length = l.length := by simp [initL]
theorem updL_length (i : Int) (f : It → It) (xs : List It) : (updL i f xs).length = xs.length := by
  unfold updL; split
  · rw [List.length_modify]
  · rfl
theorem swapL_length (x : Ac) (xs : List It) : (swapL x xs).length = xs.length := by
  unfold swapL; split
  · rw [List.length_set, List.length_set]
  · rfl
theorem dropL_length (x : Ac) (xs : List It) : (dropL x xs).length = if inn x.a xs.length then xs.length - 1 else xs.length := by
  unfold dropL; split
  · rename_i h
    rw [List.length_eraseIdx, if_pos (by unfold inn at h; omega)]
  · rfl
theorem twiceL_length (x : Ac) (xs : List It) : (twiceL x xs).length = if inn x.a xs.length ∧ xs.length < 8192 then xs.length + 1 else xs.length := by
  unfold twiceL; split
  · rename_i h
    exact ins_length _ _ _ (by unfold inn at h; omega)
  · rfl
theorem deedL_le (x : Ac) (xs : List It) : (deedL x xs).length ≤ xs.length + 1 := by
  unfold deedL
  generalize kd x.w = k
  unfold deedK
  split
  · rw [dropL_length]; split <;> omega
  · rw [twiceL_length]; split <;> omega
  · rw [swapL_length]; omega
  · rw [updL_length]; omega
  · rw [updL_length]; omega
  · omega
theorem mem_modify {α : Type} {f : α → α} {y : α} : ∀ (xs : List α) (i : Nat), y ∈ xs.modify i f → y ∈ xs ∨ ∃ x ∈ xs, y = f x := by
  intro xs i h
  obtain ⟨j, hj⟩ := List.getElem?_of_mem h
  rw [List.getElem?_modify] at hj
  cases hx : xs[j]? with
  | none => simp [hx] at hj
  | some x =>
    simp [hx] at hj
    have hm := List.mem_of_getElem? hx
    split at hj
    · exact .inr ⟨x, hm, hj.symm⟩
    · exact .inl (hj ▸ hm)
/-- Every text is of a bounded size. -/
def Sz (B : Nat) (xs : List It) : Prop := ∀ it ∈ xs, it.1.size ≤ B
theorem Sz.upd {B : Nat} {i : Int} {f : It → It} {xs : List It} (h : Sz B xs) (hf : ∀ it : It, it.1.size ≤ B → (f it).1.size ≤ B) : Sz B (updL i f xs) := by
  unfold updL; split
  · intro it hit
    rcases mem_modify xs _ hit with hm | ⟨x, hx, rfl⟩
    · exact h it hm
    · exact hf x (h x hx)
  · exact h
theorem deedL_sz (B : Nat) (x : Ac) (xs : List It) (h : Sz B xs) : Sz B (deedL x xs) := by
  unfold deedL
  generalize kd x.w = k
  unfold deedK
  have hg : ∀ i : Nat, (xs.getD i (ByteArray.empty, 0)).1.size ≤ B := fun i => by
    rw [List.getD_eq_getElem?_getD]
    cases hx : xs[i]? with
    | none => exact Nat.zero_le _
    | some y => exact h y (List.mem_of_getElem? hx)
  split
  · unfold dropL; split
    · exact fun it hit => h it (List.mem_of_mem_eraseIdx hit)
    · exact h
  · unfold twiceL; split
    · intro it hit
      unfold insL at hit
      rcases List.mem_append.1 hit with hm | hm
      · exact h it (List.mem_of_mem_take hm)
      · rcases List.mem_cons.1 hm with rfl | hm
        · exact hg _
        · exact h it (List.mem_of_mem_drop hm)
    · exact h
  · unfold swapL; split
    · intro it hit
      rcases List.mem_or_eq_of_mem_set hit with hm | rfl
      · rcases List.mem_or_eq_of_mem_set hm with hm | rfl
        · exact h it hm
        · exact hg _
      · exact hg _
    · exact h
  · refine h.upd fun it hit => ?_
    unfold spoilF; split
    · show (spoilS _ _ _).size ≤ B
      unfold spoilS
      rw [strOfNums_size, List.length_set, ints_length]; exact hit
    · exact hit
  · refine h.upd fun it hit => ?_
    unfold trimF; split
    · show (it.1.extract _ _).size ≤ B
      rw [ByteArray.size_extract]; omega
    · exact hit
  · exact h
theorem initL_sz (B : Nat) (l : List ByteArray) (h : ∀ s ∈ l, s.size ≤ B) : Sz B (initL l) := by
  intro it hit
  unfold initL at hit
  obtain ⟨p, hp, rfl⟩ := List.mem_map.1 hit
  have := List.fst_mem_of_mem_zipIdx hp
  exact h _ this
theorem fold_le : ∀ (acts : List Ac) (xs : List It), (acts.foldl (fun xs x => deedL x xs) xs).length ≤ xs.length + acts.length
  | [], xs => by simp
  | x :: acts, xs => by
    rw [List.foldl_cons, List.length_cons]
    have h1 := fold_le acts (deedL x xs)
    have h2 := deedL_le x xs
    omega
theorem fold_sz (B : Nat) : ∀ (acts : List Ac) (xs : List It), Sz B xs → Sz B (acts.foldl (fun xs x => deedL x xs) xs)
  | [], xs, h => h
  | x :: acts, xs, h => fold_sz B acts _ (deedL_sz B x xs h)
end Rd
open Rd
theorem deed_is (k : Nat) (hk5 : k < 5) (p : Nat) (v : Value) (xs : List It) (x : Ac) (hk : kd x.w = k) (w : World) (h : Lb w p v xs) (hn : xs.length ≤ 100000) (hs : Sz 140737488355328 xs) :
    Calls Tryd.prog (30 + k) #[.pointer (some ⟨p, 0, none⟩), n3 x] w fun e w' => e = .returned (.tuple #[]) ∧ Dd w w' p v (deedL x xs) := by
  unfold deedL
  rw [hk]
  match k, hk5 with
  | 0, _ => exact drop_is p v xs x w h hn
  | 1, _ => exact twice_is p v xs x w h hn
  | 2, _ => exact swap_is p v xs x w h hn
  | 3, _ => exact spoil_is p v xs x w h hn hs
  | 4, _ => exact trim_is p v xs x w h hn hs
end Go.Proofs.YthoemgiadadfcaaDoor
