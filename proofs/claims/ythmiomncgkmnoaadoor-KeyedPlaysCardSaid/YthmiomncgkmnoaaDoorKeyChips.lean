/- A frame's chips: the walk of keyed.Chips. -/
import Derived.Test.YthmiomncgkmnoaaDoorKeyBits
set_option linter.unusedVariables false
set_option linter.unusedSimpArgs false
namespace Go.Proofs.YthmiomncgkmnoaaDoor
open Go.RowKit Go.Sort Sip Kd
def chip (x i : Nat) : Int := if x.testBit i = true then -1 else 1
/-- The first k chips. -/
def chv (f : Nat → Int) : Array Value := ((List.range 4).map fun i => Value.int .i64 (f i)).toArray
theorem chv_get (f : Nat → Int) (i : Nat) (hi : i < 4) : (chv f)[i]? = some (.int .i64 (f i)) := by simp [chv, hi]
theorem chv_set (f : Nat → Int) (i : Nat) (b : Int) : (chv f).setIfInBounds i (.int .i64 b) = chv (fun m => if m = i then b else f m) := by
  unfold chv
  rw [List.setIfInBounds_toArray]
  congr 1
  apply List.ext_getElem
  · simp
  · intro j h1 h2
    simp only [List.getElem_set, List.getElem_map, List.getElem_range]
    by_cases e : i = j
    · subst e; rw [if_pos rfl, if_pos rfl]
    · rw [if_neg e, if_neg (fun h => e h.symm)]
theorem chv_size (f : Nat → Int) : (chv f).size = 4 := by simp [chv]
theorem chv_one (f : Nat → Int) : (chv f).all (·.oneCell') = true := by simp [chv, Value.oneCell']
theorem chv_congr {f g : Nat → Int} (h : ∀ i, i < 4 → f i = g i) : chv f = chv g := by
  unfold chv
  congr 1
  apply List.map_congr_left
  intro i hi
  rw [h i (List.mem_range.1 hi)]
theorem size50 (f : Nat → Int) : (Tryd.prog.info? 50).map (·.size) = some (chv f).size := by rw [chv_size]; kernel_rfl
theorem zero50 : ∀ w, (zeroValue 50).run Tryd.prog w = .ok (.agg (chv fun _ => 0)) w := by
  have h : (Tryd.prog.info? 50).map (fun i => i.zero) = some (some (.agg (chv fun _ => 0))) := by kernel_rfl
  intro w
  obtain ⟨i, hi, hz⟩ := Option.map_eq_some_iff.1 h
  simp [zeroValue, typeInfo, hi, hz]
def chk (x k : Nat) : Nat → Int := fun i => if i < k then chip x i else 0
theorem chk_zero (x : Nat) : chk x 0 = fun _ => 0 := by funext i; simp [chk]
theorem chk_step (x k : Nat) : chk x (k + 1) = fun m => if m = k then chip x k else chk x k m := by
  funext m
  unfold chk
  by_cases e : m = k
  · subst e; rw [if_pos (by omega), if_pos rfl]
  · rw [if_neg e]
    by_cases h2 : m < k
    · rw [if_pos h2, if_pos (by omega)]
    · rw [if_neg h2, if_neg (by omega)]
/-- The blocks of Chips: the number at p, the result at r, the chips at c. -/
structure Ch (w0 w : World) (p r c x : Nat) (f : Nat → Int) : Prop where
  num : w.cell? ⟨p, 0, none⟩ = some (.int .u64 (x : Nat))
  res : w.heap[r]? = some (.cells (chv fun _ => 0) 50 (0, 0))
  cur : w.heap[c]? = some (.cells (chv f) 50 (0, 0))
  below : Below w0.heap.size w0 w
  new : w0.heap.size ≤ r ∧ w0.heap.size ≤ c
  ne : r ≠ c ∧ p ≠ c ∧ p ≠ r
theorem Ch.set {w0 w : World} {p r c x : Nat} {f : Nat → Int} (h : Ch w0 w p r c x f) (i : Nat) (b : Int) : Ch w0 (w.setCell ⟨c, i, none⟩ (.int .i64 b)) p r c x (fun m => if m = i then b else f m) := by
  have := heap_setCell_same w c i _ 50 (.int .i64 b) h.cur
  rw [chv_set] at this
  exact ⟨(World.cell?_of_block (Below.heap_setCell _ _ _ _ h.ne.2.1)).trans h.num, (Below.heap_setCell _ _ _ _ h.ne.1).trans h.res, this, below_gb h.below (gb_setCell _ ⟨c, i, none⟩ _) h.below.size h.new.2, h.new, h.ne⟩
theorem Ch.done {w0 w : World} {p r c x : Nat} {f : Nat → Int} (h : Ch w0 w p r c x f) (g : Nat → Int) : (w.setRow r (chv g)).heap[r]? = some (.cells (chv g) 50 (0, 0)) ∧ Below w0.heap.size w0 (w.setRow r (chv g)) :=
  ⟨setRow_heap w r _ _ 50 _ h.res, (Keep.setRow w r _ [r] (by simp)).below h.below (by intro j hj; rw [List.mem_singleton] at hj; rw [hj]; exact h.new.1)⟩
end Go.Proofs.YthmiomncgkmnoaaDoor
