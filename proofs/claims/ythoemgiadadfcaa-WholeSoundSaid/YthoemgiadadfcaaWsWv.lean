/- The blocks of a frame's waves: what they hold, step by step. -/
import Derived.Test.YthoemgiadadfcaaWsIdx
import Derived.Test.YthoemgiadadfcaaBelowTail
set_option linter.unusedVariables false
set_option linter.unusedSimpArgs false
namespace Go.Proofs.Ythoemgiadadfcaa
open Go.RowKit Go.Sort Ws
/-- The frame's box at a, the result at r, the wheel at c. -/
structure Wv (w0 w : World) (a r c : Nat) (f g : F) : Prop where
  A : Blk w a 47 32 f
  R : Blk w r 47 32 fun _ => 0
  C : Blk w c 60 32 g
  below : Below w0.heap.size w0 w
  new : w0.heap.size ≤ a ∧ w0.heap.size ≤ r ∧ w0.heap.size ≤ c
  ne : a ≠ r ∧ a ≠ c ∧ r ≠ c
section
variable {w0 w w' : World} {a r c : Nat} {f g g' f' : F}
theorem Wv.setC (h : Wv w0 w a r c f g) (hk : Wk w c 60 32 g' w') : Wv w0 w' a r c f g' :=
  ⟨h.A.keep hk.2 (by simp [h.ne]), h.R.keep hk.2 (by simp [h.ne]), hk.1, hk.2.below h.below (by intro j hj; rw [List.mem_singleton] at hj; rw [hj]; exact h.new.2.2), h.new, h.ne⟩
theorem Wv.setA (h : Wv w0 w a r c f g) (hk : Wk w a 47 32 f' w') : Wv w0 w' a r c f' g :=
  ⟨hk.1, h.R.keep hk.2 (by have := h.ne; simp; omega), h.C.keep hk.2 (by have := h.ne; simp; omega), hk.2.below h.below (by intro j hj; rw [List.mem_singleton] at hj; rw [hj]; exact h.new.1), h.new, h.ne⟩
theorem Wv.later (h : Wv w0 w a r c f g) (hb : Below w.heap.size w w') : Wv w0 w' a r c f g :=
  ⟨h.A.below hb, h.R.below hb, h.C.below hb, h.below.trans (hb.mono h.below.size), h.new, h.ne⟩
theorem Wv.drewN (h : Wv w0 w a r c f g) (n : Nat) : Wv w0 (w.drewN n) a r c f g := h.later ⟨rfl, rfl, rfl, Nat.le_refl _, fun _ _ => rfl⟩
theorem Wv.congr (h : Wv w0 w a r c f g) (hf : ∀ i, i < 32 → f i = f' i) (hg : ∀ i, i < 32 → g i = g' i) : Wv w0 w a r c f' g' := ⟨h.A.congr hf, h.R, h.C.congr hg, h.below, h.new, h.ne⟩
theorem Wv.put (h : Wv w0 w a r c f g) (o m : Nat) (l : F) : Wv w0 (w.setCells c o (ivl m l)) a r c f (fun x => if o ≤ x ∧ x < o + m then l (x - o) else g x) := h.setC ⟨h.C.setl o m l, Keep.setCells _ _ _ _ _ (by simp)⟩
theorem Wv.done (h : Wv w0 w a r c f g) (l : F) : (w.setRow r (iv 32 l)).heap[r]? = some (.cells (iv 32 l) 47 (0, 0)) ∧ Below w0.heap.size w0 (w.setRow r (iv 32 l)) :=
  ⟨h.R.setRow l, (Keep.setRow w r _ [r] (by simp)).below h.below (by intro j hj; rw [List.mem_singleton] at hj; rw [hj]; exact h.new.2.1)⟩
end
/-- And a pair at p. -/
def Wq (w0 : World) (a r c : Nat) (f g : F) (p : Nat) (P : Array Value) (w : World) : Prop := Wv w0 w a r c f g ∧ w.heap[p]? = some (.cells P 58 (0, 0)) ∧ p ≠ a
theorem Wq.stays (w0 : World) (a r c : Nat) (f g : F) (p : Nat) (P : Array Value) : Stays (Wq w0 a r c f g p P) := fun _ _ h hb => ⟨h.1.later hb, (hb.block p (Array.getElem?_eq_some_iff.1 h.2.1).1).trans h.2.1, h.2.2⟩
theorem Wq.set {w0 w : World} {a r c : Nat} {f g : F} {p : Nat} {P : Array Value} (h : Wq w0 a r c f g p P w) (i : Nat) (x : Int) : Wq w0 a r c (fun m => if m = i then x else f m) g p P (w.setCell ⟨a, i, none⟩ (.int .i64 x)) :=
  ⟨h.1.setA ⟨h.1.A.set i x, Keep.setCell _ _ _ _ (by simp)⟩, (Below.heap_setCell _ _ _ _ h.2.2).trans h.2.1, h.2.2⟩
namespace Ws
/-- The wheel behind n points on the way in. -/
def in1 (f : F) (n : Nat) : F := fun x => if x < 2 * n then w1 f x else 0
end Ws
theorem in1_step (f : F) (n : Nat) : turnAt n (edge n) (fun x => if n * 2 ≤ x ∧ x < n * 2 + 2 then (if x - n * 2 = 1 then f (31 - 2 * n) else f (2 * n)) else in1 f n x) = in1 f (n + 1) := by
  funext x
  have e0 : (fun x => if n * 2 ≤ x ∧ x < n * 2 + 2 then (if x - n * 2 = 1 then f (31 - 2 * n) else f (2 * n)) else in1 f n x) (2 * n) = f (2 * n) := by
    show (if _ then _ else _) = _
    rw [if_pos (by omega), if_neg (by omega)]
  have e1 : (fun x => if n * 2 ≤ x ∧ x < n * 2 + 2 then (if x - n * 2 = 1 then f (31 - 2 * n) else f (2 * n)) else in1 f n x) (2 * n + 1) = f (31 - 2 * n) := by
    show (if _ then _ else _) = _
    rw [if_pos (by omega), if_pos (by omega)]
  unfold turnAt po
  rw [e0, e1]
  by_cases h1 : x = 2 * n + 1
  · subst h1
    rw [if_pos rfl, in1, if_pos (by omega), w1_odd]
  · rw [if_neg h1]
    by_cases h2 : x = 2 * n
    · subst h2
      rw [if_pos rfl, in1, if_pos (by omega), w1_even]
    · rw [if_neg h2]
      show (if _ then _ else _) = _
      rw [if_neg (by omega)]
      unfold in1
      by_cases h3 : x < 2 * n
      · rw [if_pos h3, if_pos (by omega)]
      · rw [if_neg h3, if_neg (by omega)]
namespace Ws
/-- The wheel, and the frame, behind k points on the way out. -/
def out1 (v : F) (k : Nat) : F := fun x => if flip (x / 2) < k then w6 v x else v x
def out2 (f v : F) (k : Nat) : F := fun c => if c % 2 = 0 then (if c / 2 < k then fold6 (w6 v) c else f c) else (if (31 - c) / 2 < k then fold6 (w6 v) c else f c)
end Ws
theorem flip_inj {x k : Nat} (hx : x < 16) (hk : k < 16) (h : flip x = k) : x = flip k := by rw [← h, flip_flip x hx]
theorem out1_step (v : F) (k : Nat) (hk : k < 16) : ∀ x, x < 32 → turnAt (flip k) (edge k) (out1 v k) x = out1 v (k + 1) x := by
  intro x hx
  have hl := flip_lt k
  have e0 : out1 v k (2 * flip k) = v (2 * flip k) := by unfold out1; rw [show 2 * flip k / 2 = flip k by omega, flip_flip k hk, if_neg (by omega)]
  have e1 : out1 v k (2 * flip k + 1) = v (2 * flip k + 1) := by unfold out1; rw [show (2 * flip k + 1) / 2 = flip k by omega, flip_flip k hk, if_neg (by omega)]
  unfold turnAt po
  rw [e0, e1]
  by_cases h1 : x = 2 * flip k + 1
  · rw [if_pos h1, h1]
    unfold out1
    rw [show (2 * flip k + 1) / 2 = flip k by omega, flip_flip k hk, if_pos (by omega), w6_odd, flip_flip k hk]
  · rw [if_neg h1]
    by_cases h2 : x = 2 * flip k
    · rw [if_pos h2, h2]
      unfold out1
      rw [show (2 * flip k) / 2 = flip k by omega, flip_flip k hk, if_pos (by omega), w6_even, flip_flip k hk]
    · rw [if_neg h2]
      unfold out1
      have hne : flip (x / 2) ≠ k := fun he => by
        have := flip_inj (by omega) hk he
        omega
      by_cases h3 : flip (x / 2) < k
      · rw [if_pos h3, if_pos (by omega)]
      · rw [if_neg h3, if_neg (by omega)]
theorem out2_step (f v : F) (k : Nat) (hk : k < 16) : ∀ x, x < 32 → (if x = 31 - 2 * k then -(out1 v (k + 1) (2 * flip k + 1)) else if x = 2 * k then out1 v (k + 1) (2 * flip k) else out2 f v k x) = out2 f v (k + 1) x := by
  intro x hx
  have hl := flip_lt k
  have e0 : out1 v (k + 1) (2 * flip k) = w6 v (2 * flip k) := by unfold out1; rw [show 2 * flip k / 2 = flip k by omega, flip_flip k hk, if_pos (by omega)]
  have e1 : out1 v (k + 1) (2 * flip k + 1) = w6 v (2 * flip k + 1) := by unfold out1; rw [show (2 * flip k + 1) / 2 = flip k by omega, flip_flip k hk, if_pos (by omega)]
  rw [e0, e1]
  by_cases h1 : x = 31 - 2 * k
  · rw [if_pos h1]
    unfold out2 fold6
    rw [if_neg (by omega), if_pos (by omega), if_neg (by omega), show (31 - x) / 2 = k by omega]
  · rw [if_neg h1]
    by_cases h2 : x = 2 * k
    · rw [if_pos h2]
      unfold out2 fold6
      rw [if_pos (by omega), if_pos (by omega), if_pos (by omega), show x / 2 = k by omega]
    · rw [if_neg h2]
      unfold out2
      by_cases h3 : x % 2 = 0
      · rw [if_pos h3, if_pos h3]
        by_cases h4 : x / 2 < k
        · rw [if_pos h4, if_pos (by omega)]
        · rw [if_neg h4, if_neg (by omega)]
      · rw [if_neg h3, if_neg h3]
        by_cases h4 : (31 - x) / 2 < k
        · rw [if_pos h4, if_pos (by omega)]
        · rw [if_neg h4, if_neg (by omega)]
end Go.Proofs.Ythoemgiadadfcaa
