/- A region that draws its order, with two writes in a fixed order: what holds while it runs. -/
import Derived.Test.YthoemgiadadfcaaDoorTwoRows
set_option linter.unusedVariables false
set_option linter.unusedSimpArgs false
namespace Go.Proofs.YthoemgiadadfcaaDoor
open Go.RowKit
/-- What kinds of worlds outlive new blocks. -/
def Stays (S : World → Prop) : Prop := ∀ w w', S w → Below w.heap.size w w' → S w'
structure St2 (w : World) (d : Nat → Bool) (vals : List (Nat × Value × Value)) (S0 S1 S2 : World → Prop) (i j : Nat) (pre : List Nat) : Prop where
  vals : ∀ e ∈ vals, d e.1 = true → e.2.2 = e.2.1
  st : if d j = true then S2 w else if d i = true then S1 w else S0 w
  m1 : d i = true → ∀ e ∈ pre, d e = true
  m2 : d j = true → d i = true
section
variable {w w' : World} {d : Nat → Bool} {vs : List (Nat × Value × Value)} {S0 S1 S2 : World → Prop} {i j : Nat} {pre : List Nat}
theorem St2.start (W : World) (vs : List (Nat × Value × Value)) (S0 S1 S2 : World → Prop) (i j : Nat) (pre : List Nat) (h : S0 W) (h0 : Stays S0) : St2 W.drew (fun _ => false) vs S0 S1 S2 i j pre :=
  ⟨(by intro e _ h; cases h), h0 _ _ h ⟨rfl, rfl, rfl, Nat.le_refl _, fun _ _ => rfl⟩, (by intro h; cases h), (by intro h; cases h)⟩
theorem St2.val (h : St2 w d vs S0 S1 S2 i j pre) (k : Nat) (hk : k ≠ i ∧ k ≠ j) (vs' : List (Nat × Value × Value)) (hv : ∀ e ∈ vs', also d k e.1 = true → e.2.2 = e.2.1) : St2 w (also d k) vs' S0 S1 S2 i j pre := by
  obtain ⟨k1, k2⟩ := hk
  refine ⟨hv, ?_, ?_, ?_⟩
  · rw [also_ne d k1.symm, also_ne d k2.symm]; exact h.st
  · rw [also_ne d k1.symm]; intro hi e he; unfold also; split
    · rfl
    · exact h.m1 hi e he
  · rw [also_ne d k1.symm, also_ne d k2.symm]; exact h.m2
theorem vals_set {d : Nat → Bool} : ∀ (vs : List (Nat × Value × Value)) (p k : Nat) (v : Value), (∀ e ∈ vs, d e.1 = true → e.2.2 = e.2.1) → ((vs.map (·.1)).eraseIdx p).contains k = false →
    ∀ e ∈ vs.set p (k, v, v), also d k e.1 = true → e.2.2 = e.2.1
  | [], _, _, _, _, _ => (by intro e he; cases he)
  | x :: vs, 0, k, v, h, hc => by
    intro e he hde
    rcases List.mem_cons.1 he with rfl | he
    · rfl
    · have : e.1 ≠ k := by
        intro hk
        have : (List.map (·.1) vs).contains k = true := by rw [List.contains_iff_mem]; exact List.mem_map.2 ⟨e, he, hk⟩
        rw [show ((x :: vs).map (·.1)).eraseIdx 0 = vs.map (·.1) from rfl] at hc
        rw [this] at hc; cases hc
      rw [also_ne d this] at hde
      exact h e (List.mem_cons_of_mem _ he) hde
  | x :: vs, p + 1, k, v, h, hc => by
    intro e he hde
    have hc' : (x.1 :: (vs.map (·.1)).eraseIdx p).contains k = false := hc
    rw [List.contains_cons, Bool.or_eq_false_iff] at hc'
    rcases List.mem_cons.1 he with rfl | he
    · have : e.1 ≠ k := by
        intro hk
        have := hc'.1
        rw [hk] at this
        simp at this
      rw [also_ne d this] at hde
      exact h e (List.mem_cons_self ..) hde
    · exact vals_set vs p k v (fun e he => h e (List.mem_cons_of_mem _ he)) hc'.2 e he hde
theorem St2.put (h : St2 w d vs S0 S1 S2 i j pre) (k p : Nat) (v : Value) (hk : k ≠ i ∧ k ≠ j) (hc : ((vs.map (·.1)).eraseIdx p).contains k = false) : St2 w (also d k) (vs.set p (k, v, v)) S0 S1 S2 i j pre :=
  h.val k hk _ (vals_set vs p k v h.vals hc)
theorem St2.later (h : St2 w d vs S0 S1 S2 i j pre) (h0 : Stays S0) (h1 : Stays S1) (h2 : Stays S2) (hb : Below w.heap.size w w') : St2 w' d vs S0 S1 S2 i j pre := by
  refine ⟨h.vals, ?_, h.m1, h.m2⟩
  have := h.st
  split
  · rename_i hj; rw [if_pos hj] at this; exact h2 _ _ this hb
  · rename_i hj; rw [if_neg hj] at this
    split
    · rename_i hi; rw [if_pos hi] at this; exact h1 _ _ this hb
    · rename_i hi; rw [if_neg hi] at this; exact h0 _ _ this hb
/-- Before the first write. -/
theorem St2.at0 (h : St2 w d vs S0 S1 S2 i j pre) (k : Nat) (hd : d k = false) (hk : k ∈ i :: pre) : S0 w := by
  have hi : d i = false := by
    rcases List.mem_cons.1 hk with rfl | hk
    · exact hd
    · cases hi : d i with
      | false => rfl
      | true => rw [h.m1 hi k hk] at hd; cases hd
  have hj : d j = false := by
    cases hj : d j with
    | false => rfl
    | true => rw [h.m2 hj] at hi; cases hi
  have := h.st
  rw [hj, hi] at this
  exact this
/-- What holds at any time. -/
theorem St2.any (h : St2 w d vs S0 S1 S2 i j pre) (R : World → Prop) (h0 : ∀ w, S0 w → R w) (h1 : ∀ w, S1 w → R w) (h2 : ∀ w, S2 w → R w) : R w := by
  have := h.st
  split at this
  · exact h2 _ this
  · split at this
    · exact h1 _ this
    · exact h0 _ this
theorem St2.at1 (h : St2 w d vs S0 S1 S2 i j pre) (hd : d j = false) (hi : d i = true) : S1 w := by
  have := h.st
  rw [hd, hi] at this
  exact this
theorem St2.fst (h : St2 w d vs S0 S1 S2 i j pre) (hd : d i = false) (hij : i ≠ j) (hp : ∀ e ∈ pre, d e = true) (hv : (vs.map (·.1)).contains i = false) (hs : S1 w') : St2 w' (also d i) vs S0 S1 S2 i j pre := by
  have hj : d j = false := by
    cases hj : d j with
    | false => rfl
    | true => rw [h.m2 hj] at hd; cases hd
  refine ⟨?_, ?_, ?_, ?_⟩
  · intro e he hde
    rw [also_ne d (not_at hv he)] at hde
    exact h.vals e he hde
  · rw [also_ne d hij.symm, hj, also_self]; exact hs
  · intro _ e he; unfold also; split
    · rfl
    · exact hp e he
  · intro _; exact also_self _ _
theorem St2.snd (h : St2 w d vs S0 S1 S2 i j pre) (hij : i ≠ j) (hi : d i = true) (hv : (vs.map (·.1)).contains j = false) (hs : S2 w') : St2 w' (also d j) vs S0 S1 S2 i j pre := by
  refine ⟨?_, ?_, ?_, ?_⟩
  · intro e he hde
    rw [also_ne d (not_at hv he)] at hde
    exact h.vals e he hde
  · rw [also_self]; exact hs
  · rw [also_ne d hij]; intro hi e he; unfold also; split
    · rfl
    · exact h.m1 hi e he
  · intro _; rw [also_ne d hij]; exact hi
theorem St2.done (h : St2 w d vs S0 S1 S2 i j pre) (hj : d j = true) : S2 w := by
  have := h.st
  rw [hj] at this
  exact this
/-- The first write, whose value the later kinds of worlds name. -/
theorem St2.fstV {S1' S2' : World → Prop} (h : St2 w d vs S0 S1 S2 i j pre) (hd : d i = false) (hij : i ≠ j) (hp : ∀ e ∈ pre, d e = true) (hv : (vs.map (·.1)).contains i = false) (hs : S1' w') : St2 w' (also d i) vs S0 S1' S2' i j pre := by
  have hj : d j = false := by
    cases hj : d j with
    | false => rfl
    | true => rw [h.m2 hj] at hd; cases hd
  refine ⟨?_, ?_, ?_, ?_⟩
  · intro e he hde
    rw [also_ne d (not_at hv he)] at hde
    exact h.vals e he hde
  · rw [also_ne d hij.symm, hj, also_self]; exact hs
  · intro _ e he; unfold also; split
    · rfl
    · exact hp e he
  · intro _; exact also_self _ _
/-- A step before the first write, which turns what is known of the world. -/
theorem St2.mid {S0' S1' S2' : World → Prop} (h : St2 w d vs S0 S1 S2 i j pre) (hd : d i = false) (k : Nat) (hk : k ≠ i ∧ k ≠ j) (hv : (vs.map (·.1)).contains k = false) (hs : S0' w') : St2 w' (also d k) vs S0' S1' S2' i j pre := by
  have hj : d j = false := by
    cases hj : d j with
    | false => rfl
    | true => rw [h.m2 hj] at hd; cases hd
  refine ⟨?_, ?_, ?_, ?_⟩
  · intro e he hde
    rw [also_ne d (not_at hv he)] at hde
    exact h.vals e he hde
  · rw [also_ne d hk.2.symm, hj, also_ne d hk.1.symm, hd]; exact hs
  · rw [also_ne d hk.1.symm, hd]; intro h; cases h
  · rw [also_ne d hk.2.symm, hj]; intro h; cases h
end
end Go.Proofs.YthoemgiadadfcaaDoor
