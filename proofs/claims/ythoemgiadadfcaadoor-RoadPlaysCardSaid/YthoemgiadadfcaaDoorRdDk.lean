/- A region that calls for the map of deeds, looks a word up in it, and lays what is found in a variable of its own, in whatever order: what holds while it runs. -/
import Derived.Test.YthoemgiadadfcaaDoorRdMap
import Derived.Test.YthoemgiadadfcaaDoorRegC
set_option linter.unusedVariables false
set_option linter.unusedSimpArgs false
namespace Go.Proofs.YthoemgiadadfcaaDoor
open Go.RowKit Rd
namespace Rd
def dF (k : Nat) : Value := if k < 5 then .func (.func (30 + k)) #[] #[] else .nilFunc
theorem nums_out (k : Nat) (h : ¬ k < 5) : nums k = 0 := by
  match k with
  | 0 | 1 | 2 | 3 | 4 => omega
  | n + 5 => rfl
theorem dv_eq (k : Nat) : dv k = .agg #[.int .i64 (nums k), dF k] := by
  unfold dv dF
  by_cases h : k < 5
  · rw [if_pos h, if_pos h]
  · rw [if_neg h, if_neg h, nums_out k h]; rfl
theorem dF_one (k : Nat) : (dF k).oneCell' = true := by unfold dF; split <;> rfl
end Rd
/-- The row that holds what is found. -/
abbrev dz : Array Value := #[.int .i64 0, .nilFunc]
abbrev dc (k : Nat) : Array Value := #[.int .i64 (nums k), dF k]
theorem dc_one (k : Nat) : (dc k).all (·.oneCell') = true := by unfold dc dF; split <;> simp [Value.oneCell']
structure Dk (W w : World) (d : Nat → Bool) (vals : List (Nat × Value × Value)) (k i j : Nat) (sm sp : Value) : Prop where
  below : Below W.heap.size W w
  vals : ∀ e ∈ vals, d e.1 = true → e.2.2 = e.2.1
  mp : d 0 = true → ∃ r, sm = .map (some r) ∧ W.heap.size ≤ r ∧ w.heap[r]? = some (.map ES 5)
  al : d i = true → ∃ p, sp = .pointer (some ⟨p, 0, none⟩) ∧ W.heap.size ≤ p ∧ w.heap[p]? = some (.cells (if d j = true then dc k else dz) 72 (0, 0))
  m1 : d j = true → d i = true
section
variable {W w w' : World} {d : Nat → Bool} {vs : List (Nat × Value × Value)} {k i j : Nat} {sm sp : Value}
theorem Dk.start (W : World) (vs : List (Nat × Value × Value)) (k i j : Nat) (sm sp : Value) : Dk W W.drew (fun _ => false) vs k i j sm sp :=
  ⟨⟨rfl, rfl, rfl, Nat.le_refl _, fun _ _ => rfl⟩, (by intro e _ h; cases h), (by intro h; cases h), (by intro h; cases h), (by intro h; cases h)⟩
theorem Dk.put (h : Dk W w d vs k i j sm sp) (q p : Nat) (v : Value) (hq : q ≠ 0 ∧ q ≠ i ∧ q ≠ j) (hc : ((vs.map (·.1)).eraseIdx p).contains q = false) : Dk W w (also d q) (vs.set p (q, v, v)) k i j sm sp := by
  obtain ⟨q0, q1, q2⟩ := hq
  refine ⟨h.below, vals_set vs p q v h.vals hc, ?_, ?_, ?_⟩
  · rw [also_ne d q0.symm]; exact h.mp
  · rw [also_ne d q1.symm, also_ne d q2.symm]; exact h.al
  · rw [also_ne d q1.symm, also_ne d q2.symm]; exact h.m1
theorem Dk.call (h : Dk W w d vs k i j sm sp) (hq : 0 ≠ i ∧ 0 ≠ j) (hv : (vs.map (·.1)).contains 0 = false) {r : Nat} (hb : Below w.heap.size w w') (hr : w.heap.size ≤ r) (hm : w'.heap[r]? = some (.map ES 5)) : Dk W w' (also d 0) vs k i j (.map (some r)) sp := by
  obtain ⟨q1, q2⟩ := hq
  refine ⟨h.below.trans (hb.mono h.below.size), ?_, fun _ => ⟨r, rfl, Nat.le_trans h.below.size hr, hm⟩, ?_, ?_⟩
  · intro e he hde
    rw [also_ne d (not_at hv he)] at hde
    exact h.vals e he hde
  · rw [also_ne d q1.symm, also_ne d q2.symm]
    intro hd
    obtain ⟨p, h1, h2, h3⟩ := h.al hd
    exact ⟨p, h1, h2, (hb.block p (Array.getElem?_eq_some_iff.1 h3).1).trans h3⟩
  · rw [also_ne d q1.symm, also_ne d q2.symm]; exact h.m1
theorem Dk.make (h : Dk W w d vs k i j sm sp) (hd : d i = false) (hq : i ≠ 0 ∧ i ≠ j) (hv : (vs.map (·.1)).contains i = false) : Dk W (w.alloc (.cells dz 72)) (also d i) vs k i j sm (.pointer (some ⟨w.heap.size, 0, none⟩)) := by
  obtain ⟨q0, q2⟩ := hq
  have hj : d j = false := by cases hj : d j with | false => rfl | true => rw [h.m1 hj] at hd; cases hd
  have hb : Below w.heap.size w (w.alloc (.cells dz 72)) := (Below.refl _ _).alloc (Nat.le_refl _) _
  refine ⟨h.below.trans (hb.mono h.below.size), ?_, ?_, ?_, fun _ => also_self _ _⟩
  · intro e he hde
    rw [also_ne d (not_at hv he)] at hde
    exact h.vals e he hde
  · rw [also_ne d q0.symm]
    intro h0
    obtain ⟨r, h1, h2, h3⟩ := h.mp h0
    exact ⟨r, h1, h2, (hb.block r (Array.getElem?_eq_some_iff.1 h3).1).trans h3⟩
  · intro _
    refine ⟨_, rfl, h.below.size, ?_⟩
    rw [also_ne d q2.symm, hj]
    exact heap_alloc_new w _
theorem Dk.fill (h : Dk W w d vs k i j sm sp) (hd : d i = true) (hdj : d j = false) (hq : j ≠ 0 ∧ j ≠ i) (hv : (vs.map (·.1)).contains j = false) :
    ∃ p, sp = .pointer (some ⟨p, 0, none⟩) ∧ w.heap[p]? = some (.cells dz 72 (0, 0)) ∧ Dk W (w.setRow p (dc k)) (also d j) vs k i j sm sp := by
  obtain ⟨q0, q1⟩ := hq
  obtain ⟨p, e1, e2, e3⟩ := h.al hd
  rw [hdj] at e3
  refine ⟨p, e1, e3, ?_, ?_, ?_, ?_, fun _ => by rw [also_ne d q1.symm]; exact hd⟩
  · exact (Keep.setRow w p (dc k) [p] (by simp)).below h.below (by intro j hj; rw [List.mem_singleton] at hj; omega)
  · intro e he hde
    rw [also_ne d (not_at hv he)] at hde
    exact h.vals e he hde
  · rw [also_ne d q0.symm]
    intro h0
    obtain ⟨r, h1, h2, h3⟩ := h.mp h0
    have hne : r ≠ p := fun he => by rw [he, e3] at h3; cases h3
    exact ⟨r, h1, h2, by rw [setRow_other w p r _ hne]; exact h3⟩
  · intro _
    refine ⟨p, e1, e2, ?_⟩
    rw [also_self, if_pos rfl]
    exact setRow_heap w p _ _ 72 _ e3
theorem Dk.done (h : Dk W w d vs k i j sm sp) (hi : d i = true) (hj : d j = true) : ∃ p, sp = .pointer (some ⟨p, 0, none⟩) ∧ W.heap.size ≤ p ∧ w.heap[p]? = some (.cells (dc k) 72 (0, 0)) ∧ Below W.heap.size W w := by
  obtain ⟨p, h1, h2, h3⟩ := h.al hi
  rw [hj] at h3
  exact ⟨p, h1, h2, h3, h.below⟩
end
end Go.Proofs.YthoemgiadadfcaaDoor
