/- Two rows that a region makes in whatever order: what holds of them while it runs. -/
import Derived.Test.YthoemgiadadfcaaDoorRegionInv
import Derived.Test.YthoemgiadadfcaaDoorFoot
set_option linter.unusedVariables false
set_option linter.unusedSimpArgs false
namespace Go.Proofs.YthoemgiadadfcaaDoor
open Go.RowKit
theorem Keep.setRow (w : World) (g : Nat) (cs : Array Value) (F : List Nat) (h : g ∈ F) : Keep w (w.setRow g cs) F :=
  ⟨rfl, rfl, rfl, by simp, fun j _ hn => setRow_other w g j cs (fun e => hn (e ▸ h))⟩
/-- Operations i, j make and fill the row that slot s tells. -/
def RowAt (W w : World) (t : TypeId) (z c : Array Value) (made filled : Bool) (s : Value) : Prop :=
  made = true → ∃ p, s = .pointer (some ⟨p, 0, none⟩) ∧ W.heap.size ≤ p ∧ w.heap[p]? = some (.cells (if filled = true then c else z) t (0, 0))
structure Two (W w : World) (d : Nat → Bool) (vals : List (Nat × Value × Value)) (t : TypeId) (z c1 c2 : Array Value) (i1 j1 i2 j2 : Nat) (s1 s2 : Value) : Prop where
  below : Below W.heap.size W w
  vals : ∀ e ∈ vals, d e.1 = true → e.2.2 = e.2.1
  one : RowAt W w t z c1 (d i1) (d j1) s1
  two : RowAt W w t z c2 (d i2) (d j2) s2
  ne : d i1 = true → d i2 = true → s1 ≠ s2
  m1 : d j1 = true → d i1 = true
  m2 : d j2 = true → d i2 = true
variable {W w : World} {d : Nat → Bool} {vs : List (Nat × Value × Value)} {t : TypeId} {z c1 c2 : Array Value} {i1 j1 i2 j2 : Nat} {s1 s2 : Value}
theorem RowAt.below {made filled : Bool} {s : Value} {c : Array Value} (h : RowAt W w t z c made filled s) {w' : World} (hb : Below w.heap.size w w') : RowAt W w' t z c made filled s := fun hm => by
  obtain ⟨p, h1, h2, h3⟩ := h hm
  exact ⟨p, h1, h2, by rw [hb.block p (Array.getElem?_eq_some_iff.1 h3).1]; exact h3⟩
theorem Two.start (W : World) (vs : List (Nat × Value × Value)) (t : TypeId) (z c1 c2 : Array Value) (i1 j1 i2 j2 : Nat) (s1 s2 : Value) : Two W W.drew (fun _ => false) vs t z c1 c2 i1 j1 i2 j2 s1 s2 :=
  ⟨⟨rfl, rfl, rfl, Nat.le_refl _, fun _ _ => rfl⟩, (by intro e _ h; cases h), (by intro h; cases h), (by intro h; cases h), (by intro h; cases h), (by intro h; cases h), (by intro h; cases h)⟩
/-- A value is there. -/
theorem Two.val (h : Two W w d vs t z c1 c2 i1 j1 i2 j2 s1 s2) (k : Nat) (hk : k ≠ i1 ∧ k ≠ j1 ∧ k ≠ i2 ∧ k ≠ j2) (vs' : List (Nat × Value × Value)) (hv : ∀ e ∈ vs', also d k e.1 = true → e.2.2 = e.2.1) {w' : World} (hb : Below w.heap.size w w') :
    Two W w' (also d k) vs' t z c1 c2 i1 j1 i2 j2 s1 s2 := by
  obtain ⟨k1, k2, k3, k4⟩ := hk
  refine ⟨h.below.trans (hb.mono h.below.size), hv, ?_, ?_, ?_, by rw [also_ne d k1.symm, also_ne d k2.symm]; exact h.m1, by rw [also_ne d k3.symm, also_ne d k4.symm]; exact h.m2⟩
  · rw [also_ne d k1.symm, also_ne d k2.symm]; exact h.one.below hb
  · rw [also_ne d k3.symm, also_ne d k4.symm]; exact h.two.below hb
  · rw [also_ne d k1.symm, also_ne d k3.symm]; exact h.ne
theorem not_at {vs : List (Nat × Value × Value)} {k : Nat} (hv : (vs.map (·.1)).contains k = false) {e : Nat × Value × Value} (he : e ∈ vs) : e.1 ≠ k := by
  intro h
  have : (vs.map (·.1)).contains k = true := by rw [List.contains_iff_mem]; exact List.mem_map.2 ⟨e, he, h⟩
  rw [this] at hv; cases hv
theorem Two.make1 (h : Two W w d vs t z c1 c2 i1 j1 i2 j2 s1 s2) (hd0 : d i1 = false) (hk : i1 ≠ j1 ∧ i1 ≠ i2 ∧ i1 ≠ j2) (hv : (vs.map (·.1)).contains i1 = false) :
    Two W (w.alloc (.cells z t)) (also d i1) vs t z c1 c2 i1 j1 i2 j2 (.pointer (some ⟨w.heap.size, 0, none⟩)) s2 := by
  obtain ⟨k1, k2, k3⟩ := hk
  have hd : d j1 = false := by cases hj : d j1 with | false => rfl | true => rw [h.m1 hj] at hd0; cases hd0
  have hb : Below w.heap.size w (w.alloc (.cells z t)) := (Below.refl _ _).alloc (Nat.le_refl _) _
  refine ⟨h.below.trans (hb.mono h.below.size), ?_, ?_, ?_, ?_, fun _ => also_self _ _, by rw [also_ne d k2.symm, also_ne d k3.symm]; exact h.m2⟩
  · intro e he hde
    rw [also_ne d (not_at hv he)] at hde
    exact h.vals e he hde
  · intro _
    refine ⟨_, rfl, h.below.size, ?_⟩
    rw [also_ne d k1.symm, hd]
    exact heap_alloc_new w _
  · rw [also_ne d k2.symm, also_ne d k3.symm]; exact h.two.below hb
  · intro _ h2 he
    rw [also_ne d k2.symm] at h2
    obtain ⟨q, e1, _, e3⟩ := h.two h2
    rw [e1] at he
    injection he with he; injection he with he; injection he with he
    have := (Array.getElem?_eq_some_iff.1 e3).1
    omega
theorem Two.make2 (h : Two W w d vs t z c1 c2 i1 j1 i2 j2 s1 s2) (hd0 : d i2 = false) (hk : i2 ≠ j2 ∧ i2 ≠ i1 ∧ i2 ≠ j1) (hv : (vs.map (·.1)).contains i2 = false) :
    Two W (w.alloc (.cells z t)) (also d i2) vs t z c1 c2 i1 j1 i2 j2 s1 (.pointer (some ⟨w.heap.size, 0, none⟩)) := by
  obtain ⟨k1, k2, k3⟩ := hk
  have hd : d j2 = false := by cases hj : d j2 with | false => rfl | true => rw [h.m2 hj] at hd0; cases hd0
  have hb : Below w.heap.size w (w.alloc (.cells z t)) := (Below.refl _ _).alloc (Nat.le_refl _) _
  refine ⟨h.below.trans (hb.mono h.below.size), ?_, ?_, ?_, ?_, by rw [also_ne d k2.symm, also_ne d k3.symm]; exact h.m1, fun _ => also_self _ _⟩
  · intro e he hde
    rw [also_ne d (not_at hv he)] at hde
    exact h.vals e he hde
  · rw [also_ne d k2.symm, also_ne d k3.symm]; exact h.one.below hb
  · intro _
    refine ⟨_, rfl, h.below.size, ?_⟩
    rw [also_ne d k1.symm, hd]
    exact heap_alloc_new w _
  · intro h2 _ he
    rw [also_ne d k2.symm] at h2
    obtain ⟨q, e1, _, e3⟩ := h.one h2
    rw [e1] at he
    injection he with he; injection he with he; injection he with he
    have := (Array.getElem?_eq_some_iff.1 e3).1
    omega
theorem Two.fill1 (h : Two W w d vs t z c1 c2 i1 j1 i2 j2 s1 s2) (hd : d i1 = true) (hk : j1 ≠ i1 ∧ j1 ≠ i2 ∧ j1 ≠ j2) (hv : (vs.map (·.1)).contains j1 = false) :
    ∃ p, s1 = .pointer (some ⟨p, 0, none⟩) ∧ (∃ o, w.heap[p]? = some (.cells o t (0, 0)) ∧ (d j1 = false → o = z)) ∧ Two W (w.setRow p c1) (also d j1) vs t z c1 c2 i1 j1 i2 j2 s1 s2 := by
  obtain ⟨k1, k2, k3⟩ := hk
  obtain ⟨p, e1, e2, e3⟩ := h.one hd
  refine ⟨p, e1, ⟨_, e3, fun hf => by rw [hf]; rfl⟩, ?_, ?_, ?_, ?_, ?_, fun _ => by rw [also_ne d k1.symm]; exact hd, by rw [also_ne d k2.symm, also_ne d k3.symm]; exact h.m2⟩
  · exact (Keep.setRow w p c1 [p] (by simp)).below h.below (by intro j hj; rw [List.mem_singleton] at hj; omega)
  · intro e he hde
    rw [also_ne d (not_at hv he)] at hde
    exact h.vals e he hde
  · intro _
    refine ⟨p, e1, e2, ?_⟩
    rw [also_self, if_pos rfl]
    exact setRow_heap w p _ _ t _ e3
  · intro h2
    rw [also_ne d k2.symm] at h2
    obtain ⟨q, f1, f2, f3⟩ := h.two h2
    refine ⟨q, f1, f2, ?_⟩
    have hne : q ≠ p := fun he => h.ne hd h2 (by rw [e1, f1, he])
    rw [setRow_other w p q c1 hne, also_ne d k3.symm]; exact f3
  · rw [also_ne d k1.symm, also_ne d k2.symm]; exact h.ne
theorem Two.fill2 (h : Two W w d vs t z c1 c2 i1 j1 i2 j2 s1 s2) (hd : d i2 = true) (hk : j2 ≠ i2 ∧ j2 ≠ i1 ∧ j2 ≠ j1) (hv : (vs.map (·.1)).contains j2 = false) :
    ∃ p, s2 = .pointer (some ⟨p, 0, none⟩) ∧ (∃ o, w.heap[p]? = some (.cells o t (0, 0)) ∧ (d j2 = false → o = z)) ∧ Two W (w.setRow p c2) (also d j2) vs t z c1 c2 i1 j1 i2 j2 s1 s2 := by
  obtain ⟨k1, k2, k3⟩ := hk
  obtain ⟨p, e1, e2, e3⟩ := h.two hd
  refine ⟨p, e1, ⟨_, e3, fun hf => by rw [hf]; rfl⟩, ?_, ?_, ?_, ?_, ?_, by rw [also_ne d k2.symm, also_ne d k3.symm]; exact h.m1, fun _ => by rw [also_ne d k1.symm]; exact hd⟩
  · exact (Keep.setRow w p c2 [p] (by simp)).below h.below (by intro j hj; rw [List.mem_singleton] at hj; omega)
  · intro e he hde
    rw [also_ne d (not_at hv he)] at hde
    exact h.vals e he hde
  · intro h2
    rw [also_ne d k2.symm] at h2
    obtain ⟨q, f1, f2, f3⟩ := h.one h2
    refine ⟨q, f1, f2, ?_⟩
    have hne : q ≠ p := fun he => h.ne h2 hd (by rw [e1, f1, he])
    rw [setRow_other w p q c2 hne, also_ne d k3.symm]; exact f3
  · intro _
    refine ⟨p, e1, e2, ?_⟩
    rw [also_self, if_pos rfl]
    exact setRow_heap w p _ _ t _ e3
  · rw [also_ne d k1.symm, also_ne d k2.symm]; exact h.ne
theorem Two.done (h : Two W w d vs t z c1 c2 i1 j1 i2 j2 s1 s2) (hd : d i1 = true ∧ d j1 = true ∧ d i2 = true ∧ d j2 = true) :
    ∃ p q, s1 = .pointer (some ⟨p, 0, none⟩) ∧ s2 = .pointer (some ⟨q, 0, none⟩) ∧ Below W.heap.size W w ∧ w.heap[p]? = some (.cells c1 t (0, 0)) ∧ w.heap[q]? = some (.cells c2 t (0, 0)) := by
  obtain ⟨h1, h2, h3, h4⟩ := hd
  obtain ⟨p, e1, _, e3⟩ := h.one h1
  obtain ⟨q, f1, _, f3⟩ := h.two h3
  rw [h2] at e3
  rw [h4] at f3
  exact ⟨p, q, e1, f1, h.below, e3, f3⟩
end Go.Proofs.YthoemgiadadfcaaDoor
