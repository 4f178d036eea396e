/- Rows of things of several cells that a call owns. -/
import Derived.Test.YthoemgiadadfcaaDoorRdMap
import Derived.Deep.DeepAppendRoom
import Derived.Deep.MidRow
set_option linter.unusedVariables false
set_option linter.unusedSimpArgs false
namespace Go.Proofs.YthoemgiadadfcaaDoor
open Go.RowKit Go.Sort Rd
section
variable {α : Type}
theorem flat_length {k : Nat} {enc : α → List Value} (hk : ∀ x, (enc x).length = k) : ∀ xs : List α, (xs.flatMap enc).length = xs.length * k
  | [] => by simp
  | x :: xs => by rw [List.flatMap_cons, List.length_append, hk, flat_length hk xs, List.length_cons, Nat.succ_mul]; omega
theorem flat_get {k : Nat} {enc : α → List Value} (hk : ∀ x, (enc x).length = k) : ∀ (xs : List α) (i : Nat) (x : α), xs[i]? = some x → ∀ j, j < k → (xs.flatMap enc)[i * k + j]? = (enc x)[j]?
  | [], _, _, h, _, _ => by simp at h
  | y :: ys, 0, x, h, j, hj => by
    simp at h; subst h
    rw [List.flatMap_cons, Nat.zero_mul, Nat.zero_add, List.getElem?_append_left (by rw [hk]; exact hj)]
  | y :: ys, i + 1, x, h, j, hj => by
    rw [List.flatMap_cons, List.getElem?_append_right (by rw [hk, Nat.succ_mul]; omega), hk, show (i + 1) * k + j - k = i * k + j by rw [Nat.succ_mul]; omega]
    exact flat_get hk ys i x (by simpa using h) j hj
theorem flat_take {k : Nat} {enc : α → List Value} (hk : ∀ x, (enc x).length = k) (xs : List α) (i : Nat) : (xs.take i).flatMap enc = (xs.flatMap enc).take (i * k) := by
  induction xs generalizing i with
  | nil => simp
  | cons x xs ih =>
    cases i with
    | zero => simp
    | succ i =>
      have e1 : (enc x).take ((i + 1) * k) = enc x := List.take_of_length_le (by rw [hk, Nat.succ_mul]; omega)
      rw [List.take_succ_cons, List.flatMap_cons, List.flatMap_cons, ih, List.take_append, hk, e1, show (i + 1) * k - k = i * k by rw [Nat.succ_mul]; omega]
theorem flat_drop {k : Nat} {enc : α → List Value} (hk : ∀ x, (enc x).length = k) (xs : List α) (i : Nat) : (xs.drop i).flatMap enc = (xs.flatMap enc).drop (i * k) := by
  induction xs generalizing i with
  | nil => simp
  | cons x xs ih =>
    cases i with
    | zero => simp
    | succ i =>
      have e1 : (enc x).drop ((i + 1) * k) = [] := List.drop_of_length_le (by rw [hk, Nat.succ_mul]; omega)
      rw [List.drop_succ_cons, List.flatMap_cons, ih, List.drop_append, hk, e1, show (i + 1) * k - k = i * k by rw [Nat.succ_mul]; omega, List.nil_append]
/-- The value v is a row of things that nobody else has. -/
def Rw (w : World) (e : TypeId) (k : Nat) (enc : α → List Value) (v : Value) (xs : List α) : Prop := w.ownsRow 0 e k v xs.length (xs.flatMap enc)
variable {w w' : World} {e : TypeId} {k : Nat} {enc : α → List Value} {v : Value} {xs : List α}
theorem Rw.nil (w : World) (e : TypeId) (k : Nat) (enc : α → List Value) : Rw w e k enc (.slice none 0 0) [] := World.ownsRow_nil w 0 e k
theorem Rw.lt (h : Rw w e k enc v xs) : ∀ j ∈ foot v, j < w.heap.size := by
  intro j hj
  have : v.ownBlock = some j := by
    unfold foot at hj
    cases hv : v.ownBlock <;> simp_all
  exact (World.ownsRow.lt h j this).2
theorem Rw.keep {F : List Nat} (h : Rw w e k enc v xs) (hk : Keep w w' F) (hd : ∀ j ∈ foot v, j ∉ F) : Rw w' e k enc v xs := by
  refine ⟨h.1, ?_⟩
  rcases h.2 with hn | ⟨g, cap, cur, rfl, hb, hgg, rest⟩
  · exact .inl hn
  · exact .inr ⟨g, cap, cur, rfl, hb, by rw [hk.block g (Array.getElem?_eq_some_iff.1 hgg).1 (hd g (by simp [foot, Value.ownBlock]))]; exact hgg, rest⟩
theorem Rw.below (h : Rw w e k enc v xs) (hb : Below w.heap.size w w') : Rw w' e k enc v xs := h.keep (Keep.of_below hb []) (by simp)
theorem Rw.form (h : Rw w e k enc v xs) (hn : 0 < xs.length) : ∃ g cap, v = .slice (some ⟨g, 0, none⟩) xs.length cap ∧ xs.length ≤ cap := by
  rcases h.2 with ⟨_, h0⟩ | ⟨g, cap, cur, hv, _, _, h4, _⟩
  · omega
  · exact ⟨g, cap, hv, h4⟩
theorem Rw.shape (h : Rw w e k enc v xs) : ∃ a cap, v = .slice a xs.length cap := by
  rcases h.2 with ⟨h1, h2⟩ | ⟨g, cap, cur, hv, _⟩
  · exact ⟨none, 0, by rw [h1, h2]⟩
  · exact ⟨_, cap, hv⟩
theorem Rw.ne (h : Rw w e k enc v xs) {e' : TypeId} {b : Nat} {cs : Array Value} {fr : Nat × Nat} (hb : w.heap[b]? = some (.cells cs e' fr)) (hne : e ≠ e') : b ∉ foot v := by
  intro hf
  rcases h.2 with ⟨h1, _⟩ | ⟨g, cap, cur, rfl, _, hh, _⟩
  · rw [h1] at hf; simp [foot, Value.ownBlock] at hf
  · simp [foot, Value.ownBlock] at hf
    subst hf
    rw [hh] at hb
    injection hb with hb
    injection hb with _ ht
    exact hne ht
theorem Rw.cells {g n cap : Nat} (h : Rw w e k enc (.slice (some ⟨g, 0, none⟩) n cap) xs) (i : Nat) (u : Value) (hu : (xs.flatMap enc)[i]? = some u) : w.cell? ⟨g, i, none⟩ = some u := by
  have := World.ownsRow.cells h (g := g) rfl i u hu
  rwa [Addr.add_lit, Nat.zero_add] at this
theorem Rw.range (hk : ∀ x, (enc x).length = k) {g n cap : Nat} (h : Rw w e k enc (.slice (some ⟨g, 0, none⟩) n cap) xs) (i : Nat) (x : α) (hx : xs[i]? = some x) : w.rangeAt g (i * k) (enc x) := fun j u hj => by
  have hjk : j < k := by
    have := (List.getElem?_eq_some_iff.1 hj).1
    rwa [hk] at this
  exact h.cells _ u (by rw [flat_get hk xs i x hx j hjk]; exact hj)
theorem Rw.cell (hk : ∀ x, (enc x).length = k) {g n cap : Nat} (h : Rw w e k enc (.slice (some ⟨g, 0, none⟩) n cap) xs) (i : Nat) (x : α) (hx : xs[i]? = some x) (j : Nat) (u : Value) (hj : (enc x)[j]? = some u) : w.cell? ⟨g, i * k + j, none⟩ = some u := h.range hk i x hx j u hj
theorem Rw.free {g n cap : Nat} (h : Rw w e k enc (.slice (some ⟨g, 0, none⟩) n cap) xs) (j : Nat) : w.frozen? ⟨g, j, none⟩ = false := by
  rcases h.2 with ⟨h', _⟩ | ⟨g', cap', cur, h', _, hh, _⟩
  · cases h'
  · have : g = g' := by injection h' with h'; injection h' with h'; injection h' with h'
    subst this
    simp [World.frozen?, hh]
end
namespace Rd
/-- A packet, and where it came from. -/
abbrev It := ByteArray × Int
def lc (x : It) : List Value := [.string x.1, .int .i64 x.2]
theorem lc_length (x : It) : (lc x).length = 2 := rfl
/-- An act. -/
structure Ac where
  w : ByteArray
  a : Int
  b : Int
  c : Int
def ac (x : Ac) : List Value := [.string x.w, .int .i64 x.a, .int .i64 x.b, .int .i64 x.c]
theorem ac_length (x : Ac) : (ac x).length = 4 := rfl
def n3 (x : Ac) : Value := .agg #[.int .i64 x.a, .int .i64 x.b, .int .i64 x.c]
end Rd
/-- The list that the box p holds. -/
structure Lb (w : World) (p : Nat) (v : Value) (xs : List It) : Prop where
  box : w.heap[p]? = some (.cells #[v] 55 (0, 0))
  own : Rw w 59 2 lc v xs
theorem Lb.cell {w : World} {p : Nat} {v : Value} {xs : List It} (h : Lb w p v xs) : w.cell? ⟨p, 0, none⟩ = some v := cell_of_row _ _ 0 _ 55 (0, 0) h.box
theorem Lb.lt {w : World} {p : Nat} {v : Value} {xs : List It} (h : Lb w p v xs) : p < w.heap.size := (Array.getElem?_eq_some_iff.1 h.box).1
theorem Lb.out {w : World} {p : Nat} {v : Value} {xs : List It} (h : Lb w p v xs) : p ∉ foot v := h.own.ne h.box (by decide)
theorem Lb.below {w w' : World} {p : Nat} {v : Value} {xs : List It} (h : Lb w p v xs) (hb : Below w.heap.size w w') : Lb w' p v xs := ⟨(hb.block p h.lt).trans h.box, h.own.below hb⟩
set_option maxRecDepth 100000 in
theorem has_is (p : Nat) (a : Option Addr) (n cap : Nat) (i : Int) (w : World) (hc : w.cell? ⟨p, 0, none⟩ = some (.slice a n cap)) :
    Calls Tryd.prog 41 #[.pointer (some ⟨p, 0, none⟩), .int .i64 i] w fun e w' => e = .returned (.bool (decide (0 ≤ i ∧ i < n))) ∧ w' = w := by
  by_cases h0 : 0 ≤ i
  · by_cases h1 : i < (n : Int)
    · go_enter Tryd.func41, Tryd.ntmps41
      go_wp2
      go_ret
      exact ⟨by simp [h0, h1], rfl⟩
    · go_enter Tryd.func41, Tryd.ntmps41
      go_wp2
      go_ret
      exact ⟨by simp [h0, h1], rfl⟩
  · go_enter Tryd.func41, Tryd.ntmps41
    go_wp2
    go_ret
    have e1 : decide (0 ≤ i) = false := decide_eq_false (by omega)
    exact ⟨by simp only [Bool.decide_and, e1, Bool.false_and]; rfl, rfl⟩
end Go.Proofs.YthoemgiadadfcaaDoor
