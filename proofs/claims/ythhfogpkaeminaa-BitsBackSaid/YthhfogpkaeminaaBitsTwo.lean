/- Two Writers side by side; whole bytes in front of bits. -/
import Derived.Test.YthhfogpkaeminaaBitsLays
namespace Go.Proofs.Ythhfogpkaeminaa
open Go.RowKit Go.Sort
/-- Two Writers, made since w. -/
structure Two (w w' : World) (b c : Nat) (l m : List Bool) : Prop where
  wr : ∃ F G, Wr w' b F l ∧ Wr w' c G m ∧ (∀ j ∈ F, w.heap.size ≤ j) ∧ (∀ j ∈ G, w.heap.size ≤ j) ∧ (∀ j ∈ F, j ∉ G) ∧ b ∉ G ∧ c ∉ F
  below : Below w.heap.size w w'
  base : w.heap.size ≤ b ∧ w.heap.size ≤ c ∧ b ≠ c
theorem Two.swap {w w' : World} {b c : Nat} {l m : List Bool} (h : Two w w' b c l m) : Two w w' c b m l := by
  obtain ⟨F, G, h1, h2, h3, h4, h5, h6, h7⟩ := h.wr
  exact ⟨⟨G, F, h2, h1, h4, h3, fun j hj hf => h5 j hf hj, h7, h6⟩, h.below, h.base.2.1, h.base.1, fun e => h.base.2.2 e.symm⟩
theorem Two.keep {w w1 w2 : World} {b c : Nat} {l m : List Bool} (h : Two w w1 b c l m) (hk : Keep w1 w2 []) : Two w w2 b c l m := by
  obtain ⟨F, G, h1, h2, h3⟩ := h.wr
  exact ⟨⟨F, G, h1.keep hk (by simp) (by simp), h2.keep hk (by simp) (by simp), h3⟩, hk.below h.below (by simp), h.base⟩
theorem Two.cell {w w1 : World} {b c : Nat} {l m : List Bool} (h : Two w w1 b c l m) {a : Addr} {x : Value} (hc : w.cell? a = some x) : w1.cell? a = some x :=
  (h.below.cell (World.block_lt_of_cell? w a hc)).trans hc
theorem two_put {w w1 : World} {b c : Nat} {l m : List Bool} (h : Two w w1 b c l m) (hl : l.length ≤ 99000) (x n : Int) :
    Calls Try.prog 18 #[.pointer (some ⟨b, 0, none⟩), .int .i64 x, .int .i64 n] w1 fun e w' => e = .returned (.int .i64 (putErr x n)) ∧ Hid (Two w w' b c (l ++ putBits x n) m) := by
  obtain ⟨F, G, hW, hV, hF, hG, hd, hbG, hcF⟩ := h.wr
  refine (put_is x n l hl b F w1 hW).mono ?_
  rintro e w2 ⟨rfl, F2, g1, g2, g3⟩
  refine ⟨rfl, ⟨F2, G, g1, hV.keep g2 ?_ ?_, ?_, hG, ?_, hbG, ?_⟩, g2.below h.below ?_, h.base⟩
  · intro hm
    rcases List.mem_cons.1 hm with h' | h'
    · exact h.base.2.2 h'.symm
    · exact hcF h'
  · intro j hj hm
    rcases List.mem_cons.1 hm with h' | h'
    · exact hbG (h' ▸ hj)
    · exact hd j h' hj
  · intro j hj
    rcases g3 j hj with h' | h'
    · exact hF j h'
    · exact Nat.le_trans h.below.size h'
  · intro j hj hjG
    rcases g3 j hj with h' | h'
    · exact hd j h' hjG
    · have := hV.foot_lt j hjG; omega
  · intro hc
    rcases g3 c hc with h' | h'
    · exact hcF h'
    · have := hV.lt; omega
  · intro j hj
    rcases List.mem_cons.1 hj with h' | h'
    · rw [h']; exact h.base.1
    · exact hF j h'
theorem two_put_cells {w w1 : World} {b c : Nat} {l m : List Bool} (h : Two w w1 b c l m) (hl : l.length ≤ 99000) (x n : Int) (a1 a2 : Addr) (v1 v2 : Value) (h1 : w.cell? a1 = some v1) (h2 : w.cell? a2 = some v2) :
    Calls Try.prog 18 #[.pointer (some ⟨b, 0, none⟩), .int .i64 x, .int .i64 n] w1 fun e w' => e = .returned (.int .i64 (putErr x n)) ∧ w'.cell? a1 = some v1 ∧ w'.cell? a2 = some v2 ∧ Hid (Two w w' b c (l ++ putBits x n) m) :=
  (two_put h hl x n).mono fun _ _ ⟨e, hs⟩ => ⟨e, hs.out.cell h1, hs.out.cell h2, hs⟩
theorem two_put_cells' {w w1 : World} {b c : Nat} {l m : List Bool} (h : Two w w1 b c l m) (hl : m.length ≤ 99000) (x n : Int) (a1 a2 : Addr) (v1 v2 : Value) (h1 : w.cell? a1 = some v1) (h2 : w.cell? a2 = some v2) :
    Calls Try.prog 18 #[.pointer (some ⟨c, 0, none⟩), .int .i64 x, .int .i64 n] w1 fun e w' => e = .returned (.int .i64 (putErr x n)) ∧ w'.cell? a1 = some v1 ∧ w'.cell? a2 = some v2 ∧ Hid (Two w w' b c l (m ++ putBits x n)) :=
  (two_put_cells h.swap hl x n a1 a2 v1 v2 h1 h2).mono fun _ _ ⟨e, d1, d2, hs⟩ => ⟨e, d1, d2, (show Two _ _ _ _ _ _ from hs.out).swap⟩

/-- The bits of bytes. -/
def byteBits (l : List Nat) : List Bool := l.flatMap fun c => Bits.bitsN c 8
theorem byteBits_length (l : List Nat) : (byteBits l).length = 8 * l.length := by
  induction l with
  | nil => rfl
  | cons c l ih => simp only [byteBits, List.flatMap_cons, List.length_append, Bits.bitsN_length, List.length_cons] at *; omega
theorem byteBits_snoc (l : List Nat) (c : Nat) : byteBits (l ++ [c]) = byteBits l ++ Bits.bitsN c 8 := by simp [byteBits]
theorem byte_bits (c : Nat) (hc : c < 256) : (Bits.byte8 fun j => (Bits.bitsN c 8).getD j false) = c := by
  have h := Bits.num_bitsN c 8
  rw [Nat.mod_eq_of_lt (by omega)] at h
  have key : ∀ l : List Bool, l.length = 8 → (Bits.byte8 fun j => l.getD j false) = Bits.num l := by
    intro l hl
    match l, hl with
    | [a, b, c, d, e, f, g, h], _ => simp [Bits.byte8, Bits.num]
  rw [key _ (Bits.bitsN_length _ _), h]
theorem pack_append (L M : List Bool) (h : L.length % 8 = 0) : Bits.pack (L ++ M) = Bits.pack L ++ Bits.pack M := by
  apply List.ext_getElem
  · rw [List.length_append, Bits.pack_length, Bits.pack_length, Bits.pack_length, List.length_append]; omega
  · intro i h1 h2
    rw [Bits.pack_length, List.length_append] at h1
    rw [Bits.pack_get _ _ (by rw [List.length_append]; exact h1)]
    by_cases hi : i < (Bits.pack L).length
    · rw [List.getElem_append_left hi]
      rw [Bits.pack_length] at hi
      rw [Bits.pack_get _ _ hi]
      apply Bits.byte8_congr
      intro j hj
      rw [List.getD_eq_getElem?_getD, List.getElem?_append_left (by omega), ← List.getD_eq_getElem?_getD]
    · rw [List.getElem_append_right (by omega)]
      rw [Bits.pack_length] at hi
      simp only [Bits.pack_length]
      rw [Bits.pack_get _ _ (by omega)]
      apply Bits.byte8_congr
      intro j hj
      rw [List.getD_eq_getElem?_getD, List.getElem?_append_right (by omega), ← List.getD_eq_getElem?_getD]
      congr 1; omega
theorem pack_byteBits (l : List Nat) (h : ∀ c ∈ l, c < 256) : Bits.pack (byteBits l) = l := by
  induction l with
  | nil => rfl
  | cons c l ih =>
    have e : byteBits (c :: l) = Bits.bitsN c 8 ++ byteBits l := by simp [byteBits]
    rw [e, pack_append _ _ (by rw [Bits.bitsN_length]), ih (fun x hx => h x (List.mem_cons_of_mem _ hx))]
    have : Bits.pack (Bits.bitsN c 8) = [c] := by
      have h1 := byte_bits c (h c (by simp))
      simp only [Bits.pack, Bits.bitsN_length, List.range_one, List.map_cons, List.map_nil, Nat.mul_zero, Nat.zero_add, Nat.reduceAdd, Nat.reduceDiv]
      rw [h1]
    rw [this]; rfl
theorem packed_byteBits (s : ByteArray) : packed (byteBits (bs s)) = s := by
  apply bs_inj
  rw [bs_packed, pack_byteBits _ (bs_lt s)]
theorem packed_append (s : ByteArray) (M : List Bool) : packed (byteBits (bs s) ++ M) = s ++ packed M := by
  apply bs_inj
  rw [bs_packed, pack_append _ _ (by rw [byteBits_length]; omega), pack_byteBits _ (bs_lt s), bs_append, bs_packed]
end Go.Proofs.Ythhfogpkaeminaa
