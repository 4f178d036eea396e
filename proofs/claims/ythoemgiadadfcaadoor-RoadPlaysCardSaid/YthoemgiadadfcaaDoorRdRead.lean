/- Rows that are read; the document's numbers and errors: their walks. -/
import Derived.Test.YthoemgiadadfcaaDoorRdOne
set_option linter.unusedVariables false
set_option linter.unusedSimpArgs false
namespace Go.Proofs.YthoemgiadadfcaaDoor
open Go.RowKit Go.Sort Rd
/-- The value v reads as a row of things, wherever it lies. -/
def Rr {α : Type} (w : World) (k : Nat) (enc : α → List Value) (v : Value) (xs : List α) : Prop :=
  ∃ a cap, v = .slice a xs.length cap ∧ (xs = [] ∨ ∃ g o, a = some ⟨g, o, none⟩ ∧ g < w.heap.size ∧ ∀ i x, xs[i]? = some x → ∀ j u, (enc x)[j]? = some u → w.cell? ⟨g, o + i * k + j, none⟩ = some u)
section
variable {α : Type} {w w' : World} {k : Nat} {enc : α → List Value} {v : Value} {xs : List α}
theorem Rr.below (h : Rr w k enc v xs) (hb : Below w.heap.size w w') : Rr w' k enc v xs := by
  obtain ⟨a, cap, hv, hx⟩ := h
  refine ⟨a, cap, hv, hx.imp id ?_⟩
  rintro ⟨g, o, ha, hg, hc⟩
  exact ⟨g, o, ha, Nat.lt_of_lt_of_le hg hb.size, fun i x hi j u hj => (hb.cell (p := ⟨g, o + i * k + j, none⟩) hg).trans (hc i x hi j u hj)⟩
theorem Rw.read {e : TypeId} (hk : ∀ x, (enc x).length = k) (h : Rw w e k enc v xs) : Rr w k enc v xs := by
  by_cases hx : xs = []
  · obtain ⟨a, cap, hv⟩ := h.shape
    exact ⟨a, cap, hv, .inl hx⟩
  · obtain ⟨g, cap, rfl, _⟩ := h.form (List.length_pos_iff.2 hx)
    refine ⟨_, cap, rfl, .inr ⟨g, 0, rfl, h.lt g (by simp [foot_slice]), fun i x hi j u hj => ?_⟩⟩
    rw [Nat.zero_add]
    exact h.cell hk i x hi j u hj
theorem Rr.nil (w : World) (k : Nat) (enc : α → List Value) : Rr w k enc (.slice none 0 0) [] := ⟨none, 0, rfl, .inl rfl⟩
/-- One of its things. -/
theorem Rr.at_ {a : Option Addr} {n cap : Nat} (h : Rr w k enc (.slice a n cap) xs) (i : Nat) (hi : i < xs.length) : ∃ g o, a = some ⟨g, o, none⟩ ∧ g < w.heap.size ∧ ∃ x, xs[i]? = some x ∧ ∀ j u, (enc x)[j]? = some u → w.cell? ⟨g, o + i * k + j, none⟩ = some u := by
  obtain ⟨a', cap', hv, hx⟩ := h
  injection hv with h1 h2 h3
  subst h1
  rcases hx with rfl | ⟨g, o, ha, hg, hc⟩
  · exact absurd hi (Nat.not_lt_zero _)
  · exact ⟨g, o, ha, hg, _, List.getElem?_eq_getElem hi, hc i _ (List.getElem?_eq_getElem hi)⟩
end
namespace Rd
def numR (s : ByteArray) : Int := if kd s < 5 then (nums (kd s) : Int) else -1
end Rd
theorem tl_no {s t : ByteArray} (h : s ≠ t) : (s.toList == t.data.toList) = false := by
  rw [ByteArray.toList_eq, beq_eq_false_iff_ne]
  intro h2
  exact h (by cases s; cases t; exact congrArg _ (Array.toList_inj.1 h2))
theorem tl_yes {s t : ByteArray} (h : s = t) : (s.toList == t.data.toList) = true := by
  subst h
  rw [ByteArray.toList_eq]; simp
set_option maxRecDepth 100000 in
set_option maxHeartbeats 1600000 in
theorem numbers_is (s : ByteArray) (w : World) : Calls Tryd.prog 28 #[.string s] w fun e w' => e = .returned (.int .i64 (numR s)) ∧ w' = w := by
  have HR : Hid (numR s = if kd s < 5 then (nums (kd s) : Int) else -1) := by exact (rfl : _ = _)
  by_cases h0 : s = sDrop
  · have e0 : (s.toList == [100, 114, 111, 112]) = true := tl_yes h0
    have HK : Hid (numR s = 1) := by show _ = _; rw [h0]; rfl
    clear h0 HR
    go_enter Tryd.func28, Tryd.ntmps28
    go_wp2
    go_ret
    exact ⟨by rw [HK.out]; rfl, rfl⟩
  have e0 : (s.toList == [100, 114, 111, 112]) = false := tl_no h0
  by_cases h1 : s = sTwice
  · have e1 : (s.toList == [116, 119, 105, 99, 101]) = true := tl_yes h1
    have HK : Hid (numR s = 1) := by show _ = _; rw [h1]; rfl
    clear h0 h1 HR
    go_enter Tryd.func28, Tryd.ntmps28
    go_wp2
    go_ret
    exact ⟨by rw [HK.out]; rfl, rfl⟩
  have e1 : (s.toList == [116, 119, 105, 99, 101]) = false := tl_no h1
  by_cases h2 : s = sSwap
  · have e2 : (s.toList == [115, 119, 97, 112]) = true := tl_yes h2
    have HK : Hid (numR s = 2) := by show _ = _; rw [h2]; rfl
    clear h0 h1 h2 HR
    go_enter Tryd.func28, Tryd.ntmps28
    go_wp2
    go_ret
    exact ⟨by rw [HK.out]; rfl, rfl⟩
  have e2 : (s.toList == [115, 119, 97, 112]) = false := tl_no h2
  by_cases h4 : s = sTrim
  · have e4 : (s.toList == [116, 114, 105, 109]) = true := tl_yes h4
    have HK : Hid (numR s = 2) := by show _ = _; rw [h4]; rfl
    clear h0 h1 h2 h4 HR
    go_enter Tryd.func28, Tryd.ntmps28
    go_wp2
    go_ret
    exact ⟨by rw [HK.out]; rfl, rfl⟩
  have e4 : (s.toList == [116, 114, 105, 109]) = false := tl_no h4
  by_cases h3 : s = sSpoil
  · have e3 : (s.toList == [115, 112, 111, 105, 108]) = true := tl_yes h3
    have HK : Hid (numR s = 3) := by show _ = _; rw [h3]; rfl
    clear h0 h1 h2 h4 h3 HR
    go_enter Tryd.func28, Tryd.ntmps28
    go_wp2
    go_ret
    exact ⟨by rw [HK.out]; rfl, rfl⟩
  have e3 : (s.toList == [115, 112, 111, 105, 108]) = false := tl_no h3
  have HK : Hid (numR s = -1) := by
    show _ = _
    rw [HR.out, if_neg]
    unfold kd
    rw [if_neg h0, if_neg h1, if_neg h2, if_neg h3, if_neg h4]
    decide
  clear h0 h1 h2 h4 h3 HR
  go_enter Tryd.func28, Tryd.ntmps28
  go_wp2
  go_ret
  exact ⟨by rw [HK.out]; rfl, rfl⟩
end Go.Proofs.YthoemgiadadfcaaDoor
