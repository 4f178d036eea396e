/- strings.Builder, with what it leaves as it was; acts as text: plain. -/
import Derived.Test.YthoemgiadadfcaaDoorRdAwake
import Derived.Shelf.Strings.BuilderK
set_option linter.unusedVariables false
set_option linter.unusedSimpArgs false
namespace Go.Proofs.YthoemgiadadfcaaDoor
open Go.RowKit Go.Sort Rd
/-- A builder at b that holds these bytes. -/
def BF (b : Nat) (l : List UInt8) (w : World) : Prop := Lib.IsBuilderF 64 5 b b (Lib.byteCells l) w
theorem BF.lt {b : Nat} {l : List UInt8} {w : World} (h : BF b l w) : b < w.heap.size := by
  rcases h with ⟨_, v, hb, _⟩ | ⟨_, v, hb, _⟩ <;> exact (Array.getElem?_eq_some_iff.1 hb).1
theorem ownsF_below {w w' : World} {base : Nat} {e : TypeId} {k n : Nat} {v : Value} {xs : List Value} (h : w.ownsRowF base e k v n xs) (hb : Below w.heap.size w w') : w'.ownsRowF base e k v n xs := by
  refine ⟨h.1, h.2.imp id ?_⟩
  rintro ⟨g, cap, cur, fz, hv, hg, hc, hr⟩
  exact ⟨g, cap, cur, fz, hv, hg, (hb.block g (Array.getElem?_eq_some_iff.1 hc).1).trans hc, hr⟩
theorem BF.below {b : Nat} {l : List UInt8} {w w' : World} (h : BF b l w) (hb : Below w.heap.size w w') : BF b l w' := by
  have hl := h.lt
  rcases h with ⟨h0, v, h1, h2, h3⟩ | ⟨h0, v, h1, h2, h3⟩
  · exact .inl ⟨h0, v, (hb.block b hl).trans h1, ownsF_below h2 hb, h3⟩
  · exact .inr ⟨h0, v, (hb.block b hl).trans h1, ownsF_below h2 hb, h3⟩
theorem BF.new (w : World) : BF w.heap.size [] (w.alloc (.cells #[.pointer none, .slice none 0 0] 64)) := Lib.IsBuilderF.of (Lib.fresh_isBuilder 64 5 w)
theorem cells_app (l : List UInt8) (s : ByteArray) : Lib.byteCells l ++ Lib.strCells s = Lib.byteCells (l ++ s.data.toList) := by simp [Lib.byteCells, Lib.strCells]
theorem wstr_is (b : Nat) (l : List UInt8) (s : ByteArray) (w : World) (h : BF b l w) (hl : l.length + s.size ≤ 100000000) :
    Calls Tryd.prog 21 #[.pointer (some ⟨b, 0, none⟩), .string s] w fun e w' => e = .returned (.tuple #[.int .i64 s.size, .nilIface]) ∧ BF b (l ++ s.data.toList) w' ∧ Below b w w' ∧ Lib.OthersKept 5 (some b) w w' :=
  (Any.Builder_WriteString_k Tryd.lays166 Tryd.Builder_Extra_166 b b (Lib.byteCells l) s w h (by rw [Lib.byteCells_length]; omega) (Nat.le_of_lt h.lt)).mono fun e w' h9 => by
    obtain ⟨h1, h2, h3, h4⟩ := h9
    rw [cells_app] at h2
    exact ⟨h1, .inr h2, h3, h4⟩
theorem wbyte_is (b : Nat) (l : List UInt8) (w : World) (h : BF b l w) (hl : l.length ≤ 100000000) :
    Calls Tryd.prog 24 #[.pointer (some ⟨b, 0, none⟩), .int .u8 10] w fun e w' => e = .returned .nilIface ∧ BF b (l ++ [10]) w' ∧ Below b w w' ∧ Lib.OthersKept 5 (some b) w w' :=
  (Any.Builder_WriteByte_k Tryd.lays167 Tryd.Builder_Extra_167 b b (Lib.byteCells l) 10 w h (by rw [Lib.byteCells_length]; omega) (Nat.le_of_lt h.lt)).mono fun e w' h9 => by
    obtain ⟨h1, h2, h3, h4⟩ := h9
    refine ⟨h1, .inr ?_, h3, h4⟩
    have : Lib.byteCells l ++ [.int .u8 10] = Lib.byteCells (l ++ [10]) := by simp [Lib.byteCells]
    rw [← this]
    exact h2
theorem wtext_is (b : Nat) (l : List UInt8) (w : World) (h : BF b l w) :
    Calls Tryd.prog 25 #[.pointer (some ⟨b, 0, none⟩)] w fun e w' => e = .returned (.string (str l)) ∧ Below b w w' :=
  (Any.Builder_String_any_k Tryd.lays169 Tryd.Builder_Extra_169 b b l w h (Nat.le_of_lt h.lt)).mono fun e w' h9 => ⟨h9.1, h9.2.2.1⟩
namespace Rd
def numB (x : Ac) (j : Nat) : List UInt8 := (List.range j).flatMap fun i => 32 :: decI (at3 x i)
def lineW (x : Ac) : List UInt8 := x.w.data.toList ++ numB x (nums (kd x.w)) ++ [10]
def writeL (l : List Ac) : List UInt8 := l.flatMap lineW
theorem numB_succ (x : Ac) (j : Nat) : numB x (j + 1) = numB x j ++ (32 :: decI (at3 x j)) := by simp [numB, List.range_succ]
theorem wrg_ok {x : Ac} (h : wrg x = 0) : kd x.w < 5 ∧ ∀ j, j < 3 → ¬ badN (nums (kd x.w)) j (at3 x j) := by
  unfold wrg at h
  split at h
  · omega
  · rename_i hk
    split at h
    · omega
    · rename_i hb
      refine ⟨by omega, fun j hj hbad => hb ?_⟩
      match j, hj with
      | 0, _ => exact .inl hbad
      | 1, _ => exact .inr (.inl hbad)
      | 2, _ => exact .inr (.inr hbad)
theorem wrg_num {x : Ac} (h : wrg x = 0) (j : Nat) (hj : j < 3) : -9007199254740992 ≤ at3 x j ∧ at3 x j ≤ 9007199254740992 := by
  have := (wrg_ok h).2 j hj
  unfold badN at this
  omega
theorem decI_len (n : Int) (h1 : -9007199254740992 ≤ n) (h2 : n ≤ 9007199254740992) : (decI n).length ≤ 17 := by
  have := decL_len 15 n.natAbs (by omega)
  unfold decI
  split <;> simp <;> omega
theorem numB_len {x : Ac} (h : wrg x = 0) : ∀ j, j ≤ 3 → (numB x j).length ≤ 18 * j
  | 0, _ => by simp [numB]
  | j + 1, hj => by
    have h1 := numB_len h j (by omega)
    have h2 := wrg_num h j (by omega)
    have h3 := decI_len _ h2.1 h2.2
    rw [numB_succ, List.length_append, List.length_cons]
    omega
theorem kd_size {s : ByteArray} (h : kd s < 5) : s.size ≤ 5 := by
  unfold kd at h
  split at h
  · rename_i e; rw [e]; decide
  · split at h
    · rename_i e; rw [e]; decide
    · split at h
      · rename_i e; rw [e]; decide
      · split at h
        · rename_i e; rw [e]; decide
        · split at h
          · rename_i e; rw [e]; decide
          · omega
theorem lineW_len {x : Ac} (h : wrg x = 0) : (lineW x).length ≤ 60 := by
  have h1 := numB_len h (nums (kd x.w)) (nums_le _)
  have h2 := kd_size (wrg_ok h).1
  have h3 := nums_le (kd x.w)
  have h4 : x.w.data.toList.length = x.w.size := by rw [Array.length_toList]; rfl
  unfold lineW
  simp only [List.length_append, List.length_cons, List.length_nil]
  omega
theorem writeL_len : ∀ (l : List Ac), (∀ x ∈ l, wrg x = 0) → (writeL l).length ≤ 60 * l.length
  | [], _ => by simp [writeL]
  | x :: l, h => by
    have h1 := lineW_len (h x (List.mem_cons_self ..))
    have h2 := writeL_len l fun y hy => h y (List.mem_cons_of_mem _ hy)
    unfold writeL at h2 ⊢
    rw [List.flatMap_cons, List.length_append, List.length_cons]
    omega
end Rd
end Go.Proofs.YthoemgiadadfcaaDoor
