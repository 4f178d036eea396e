/- The law KeyedPlays: two orders made in whatever order. -/
import Derived.Test.YthmiomncgkmnoaaDoorKeySubsets
import Derived.Test.YthmiomncgkmnoaaDoorKeyRefSub
import Derived.Test.YthmiomncgkmnoaaDoorTwoRows
import Derived.Deep.DeepCutAuto
import Derived.Lib.QuietBelow
set_option linter.unusedVariables false
set_option linter.unusedSimpArgs false
namespace Go.Proofs.YthmiomncgkmnoaaDoor
open Go.RowKit Go.Sort Sip Kd
/-- Two values that calls make in whatever order, and the two variables that take them: what holds while the region runs. -/
structure Po (W w : World) (d : Nat → Bool) (vals : List (Nat × Value × Value)) (Q : World → Value → Prop) (i3 i7 i8 i9 : Nat) (s3 s7 s8 s9 : Value) : Prop where
  below : Below W.heap.size W w
  vals : ∀ e ∈ vals, d e.1 = true → e.2.2 = e.2.1
  c3 : d i3 = true → Q w s3
  c7 : d i7 = true → Q w s7
  a8 : d i8 = true → s8 = s3 ∧ d i3 = true
  a9 : d i9 = true → s9 = s7 ∧ d i7 = true
section
variable {W w : World} {d : Nat → Bool} {vs : List (Nat × Value × Value)} {Q : World → Value → Prop} {i3 i7 i8 i9 : Nat} {s3 s7 s8 s9 : Value}
theorem Po.start (W : World) (vs : List (Nat × Value × Value)) (Q : World → Value → Prop) (i3 i7 i8 i9 : Nat) (s3 s7 s8 s9 : Value) : Po W W.drew (fun _ => false) vs Q i3 i7 i8 i9 s3 s7 s8 s9 :=
  ⟨⟨rfl, rfl, rfl, Nat.le_refl _, fun _ _ => rfl⟩, (by intro e _ h; cases h), (by intro h; cases h), (by intro h; cases h), (by intro h; cases h), (by intro h; cases h)⟩
theorem Po.val (h : Po W w d vs Q i3 i7 i8 i9 s3 s7 s8 s9) (k : Nat) (hk : k ≠ i3 ∧ k ≠ i7 ∧ k ≠ i8 ∧ k ≠ i9) (vs' : List (Nat × Value × Value)) (hv : ∀ e ∈ vs', also d k e.1 = true → e.2.2 = e.2.1) : Po W w (also d k) vs' Q i3 i7 i8 i9 s3 s7 s8 s9 := by
  obtain ⟨k1, k2, k3, k4⟩ := hk
  refine ⟨h.below, hv, ?_, ?_, ?_, ?_⟩
  · rw [also_ne d k1.symm]; exact h.c3
  · rw [also_ne d k2.symm]; exact h.c7
  · rw [also_ne d k3.symm, also_ne d k1.symm]; exact h.a8
  · rw [also_ne d k4.symm, also_ne d k2.symm]; exact h.a9
theorem Po.call3 (h : Po W w d vs Q i3 i7 i8 i9 s3 s7 s8 s9) (hQ : ∀ w w' v, Q w v → Below w.heap.size w w' → Q w' v) (hd : d i3 = false) (hk : i3 ≠ i7 ∧ i3 ≠ i8 ∧ i3 ≠ i9) (hv : (vs.map (·.1)).contains i3 = false) {w' : World} (hb : Below w.heap.size w w') {v : Value} (hq : Q w' v) :
    Po W w' (also d i3) vs Q i3 i7 i8 i9 v s7 s8 s9 := by
  obtain ⟨k1, k2, k3⟩ := hk
  refine ⟨h.below.trans (hb.mono h.below.size), ?_, fun _ => hq, ?_, ?_, ?_⟩
  · intro e he hde
    rw [also_ne d (not_at hv he)] at hde
    exact h.vals e he hde
  · rw [also_ne d k1.symm]; exact fun h7 => hQ _ _ _ (h.c7 h7) hb
  · rw [also_ne d k2.symm]; intro h8; rw [(h.a8 h8).2] at hd; cases hd
  · rw [also_ne d k3.symm, also_ne d k1.symm]; exact h.a9
theorem Po.call7 (h : Po W w d vs Q i3 i7 i8 i9 s3 s7 s8 s9) (hQ : ∀ w w' v, Q w v → Below w.heap.size w w' → Q w' v) (hd : d i7 = false) (hk : i7 ≠ i3 ∧ i7 ≠ i8 ∧ i7 ≠ i9) (hv : (vs.map (·.1)).contains i7 = false) {w' : World} (hb : Below w.heap.size w w') {v : Value} (hq : Q w' v) :
    Po W w' (also d i7) vs Q i3 i7 i8 i9 s3 v s8 s9 := by
  obtain ⟨k1, k2, k3⟩ := hk
  refine ⟨h.below.trans (hb.mono h.below.size), ?_, ?_, fun _ => hq, ?_, ?_⟩
  · intro e he hde
    rw [also_ne d (not_at hv he)] at hde
    exact h.vals e he hde
  · rw [also_ne d k1.symm]; exact fun h3 => hQ _ _ _ (h.c3 h3) hb
  · rw [also_ne d k2.symm, also_ne d k1.symm]; exact h.a8
  · rw [also_ne d k3.symm]; intro h9; rw [(h.a9 h9).2] at hd; cases hd
theorem Po.set8 (h : Po W w d vs Q i3 i7 i8 i9 s3 s7 s8 s9) (hd : d i3 = true) (hk : i8 ≠ i3 ∧ i8 ≠ i7 ∧ i8 ≠ i9) (hv : (vs.map (·.1)).contains i8 = false) : Po W w (also d i8) vs Q i3 i7 i8 i9 s3 s7 s3 s9 := by
  obtain ⟨k1, k2, k3⟩ := hk
  refine ⟨h.below, ?_, ?_, ?_, ?_, ?_⟩
  · intro e he hde
    rw [also_ne d (not_at hv he)] at hde
    exact h.vals e he hde
  · rw [also_ne d k1.symm]; exact h.c3
  · rw [also_ne d k2.symm]; exact h.c7
  · rw [also_ne d k1.symm]; exact fun _ => ⟨rfl, hd⟩
  · rw [also_ne d k3.symm, also_ne d k2.symm]; exact h.a9
theorem Po.set9 (h : Po W w d vs Q i3 i7 i8 i9 s3 s7 s8 s9) (hd : d i7 = true) (hk : i9 ≠ i3 ∧ i9 ≠ i7 ∧ i9 ≠ i8) (hv : (vs.map (·.1)).contains i9 = false) : Po W w (also d i9) vs Q i3 i7 i8 i9 s3 s7 s8 s7 := by
  obtain ⟨k1, k2, k3⟩ := hk
  refine ⟨h.below, ?_, ?_, ?_, ?_, ?_⟩
  · intro e he hde
    rw [also_ne d (not_at hv he)] at hde
    exact h.vals e he hde
  · rw [also_ne d k1.symm]; exact h.c3
  · rw [also_ne d k2.symm]; exact h.c7
  · rw [also_ne d k3.symm, also_ne d k1.symm]; exact h.a8
  · rw [also_ne d k2.symm]; exact fun _ => ⟨rfl, hd⟩
end
/-- A row of the numbers l, at the value v. -/
def OrdAt (l : List Nat) (w : World) (v : Value) : Prop := ∃ g cap, v = .slice (some ⟨g, 0, none⟩) l.length cap ∧ g < w.heap.size ∧ ∀ i, i < l.length → w.cell? ⟨g, i, none⟩ = some (.int .i64 (l.getD i 0 : Nat))
theorem OrdAt.below (l : List Nat) (w w' : World) (v : Value) (h : OrdAt l w v) (hb : Below w.heap.size w w') : OrdAt l w' v := by
  obtain ⟨g, cap, e, hg, hc⟩ := h
  exact ⟨g, cap, e, Nat.lt_of_lt_of_le hg hb.size, fun i hi => (hb.cell (p := ⟨g, i, none⟩) hg).trans (hc i hi)⟩
theorem orders_own (kl : List Nat) (hk : kl.length = 16) (hb : Bytes kl) (sg : Nat) (hs : sg < 256) (n : Nat) (h1 : 1 ≤ n) (h2 : n ≤ 256) (w : World) (hg : Signs w) :
    Calls Tryd.prog 27 #[.agg (keyV kl), .int .u8 sg, .int .i64 (n : Nat)] w fun e w' => ∃ v, e = .returned v ∧ OrdAt (ord kl sg n) w' v ∧ Below w.heap.size w w' := by
  refine (order_is kl hk hb sg hs n h1 h2 w hg).mono ?_
  rintro e w' ⟨g, rfl, hr, hbw, hng⟩
  have hl := ord_length kl sg n
  generalize ord kl sg n = L at *
  subst hl
  refine ⟨_, rfl, ⟨g, _, rfl, ?_, fun i hi => ?_⟩, hbw⟩
  · exact hr.lt
  · have := hr.at_ i (by rw [casts_length]; exact hi)
    rw [casts_get] at this
    exact this
theorem orders_ref (kl : List Nat) (hk : kl.length = 16) (hb : Bytes kl) (sg : Nat) (hs : sg < 256) (n : Nat) (h1 : 1 ≤ n) (h2 : n ≤ 256) (w : World) :
    Calls Tryd.prog 37 #[.agg (keyV kl), .int .u8 sg, .int .i64 (n : Nat)] w fun e w' => ∃ v, e = .returned v ∧ OrdAt (ord kl sg n) w' v ∧ Below w.heap.size w w' := by
  refine (refOrder_is kl hk hb sg hs n h1 h2 w).mono ?_
  rintro e w' ⟨g, cap, rfl, ho, hbw⟩
  have hl := ord_length kl sg n
  generalize ord kl sg n = L at *
  subst hl
  have ho' : Own w' 3 .i64 (.slice (some ⟨g, 0, none⟩) (casts L).length cap) (casts L) := by rw [casts_length]; exact ho
  refine ⟨_, rfl, ⟨g, _, rfl, ho.lt g (by simp [foot, Value.ownBlock]), fun i hi => ?_⟩, hbw⟩
  have := ho'.at_ i (by rw [casts_length]; exact hi)
  rw [casts_get] at this
  exact this
end Go.Proofs.YthmiomncgkmnoaaDoor
