/- Rows of numbers as blocks of cells: read, written, one by one and many at once. -/
import Derived.Test.YthoemgiadadfcaaProg
import Derived.Test.YthoemgiadadfcaaFoot
import Derived.Test.YthoemgiadadfcaaTwoRows
import Derived.Deep.MidRow
set_option linter.unusedVariables false
set_option linter.unusedSimpArgs false
namespace Go.Proofs.Ythoemgiadadfcaa
open Go.RowKit Go.Sort
/-- n numbers as cells. -/
def ivl (n : Nat) (f : Nat → Int) : List Value := (List.range n).map fun i => Value.int .i64 (f i)
def iv (n : Nat) (f : Nat → Int) : Array Value := (ivl n f).toArray
theorem ivl_length (n : Nat) (f : Nat → Int) : (ivl n f).length = n := by simp [ivl]
theorem ivl_get (n : Nat) (f : Nat → Int) (i : Nat) (hi : i < n) : (ivl n f)[i]? = some (.int .i64 (f i)) := by simp [ivl, hi]
theorem ivl_congr {n : Nat} {f g : Nat → Int} (h : ∀ i, i < n → f i = g i) : ivl n f = ivl n g := List.map_congr_left fun i hi => by rw [h i (List.mem_range.1 hi)]
theorem iv_congr {n : Nat} {f g : Nat → Int} (h : ∀ i, i < n → f i = g i) : iv n f = iv n g := by unfold iv; rw [ivl_congr h]
theorem iv_get (n : Nat) (f : Nat → Int) (i : Nat) (hi : i < n) : (iv n f)[i]? = some (.int .i64 (f i)) := by simp [iv, ivl, hi]
theorem iv_size (n : Nat) (f : Nat → Int) : (iv n f).size = n := by simp [iv, ivl]
theorem iv_one (n : Nat) (f : Nat → Int) : (iv n f).all (·.oneCell') = true := by simp [iv, ivl, Value.oneCell']
theorem iv_set (n : Nat) (f : Nat → Int) (i : Nat) (x : Int) : (iv n f).setIfInBounds i (.int .i64 x) = iv n (fun m => if m = i then x else f m) := by
  unfold iv ivl
  rw [List.setIfInBounds_toArray]
  congr 1
  apply List.ext_getElem
  · simp
  · intro j h1 h2
    simp only [List.getElem_set, List.getElem_map, List.getElem_range]
    by_cases e : i = j
    · subst e; rw [if_pos rfl, if_pos rfl]
    · rw [if_neg e, if_neg (fun h => e h.symm)]
/-- Block b holds the n numbers f. -/
def Blk (w : World) (b : Nat) (t : TypeId) (n : Nat) (f : Nat → Int) : Prop := w.heap[b]? = some (.cells (iv n f) t (0, 0))
section
variable {w w' : World} {b n : Nat} {t : TypeId} {f : Nat → Int}
theorem Blk.lt (h : Blk w b t n f) : b < w.heap.size := (Array.getElem?_eq_some_iff.1 h).1
theorem Blk.cell (h : Blk w b t n f) (i : Nat) (hi : i < n) : w.cell? ⟨b, i, none⟩ = some (.int .i64 (f i)) := (cell_of_row _ _ i _ t (0, 0) h).trans (iv_get _ _ i hi)
theorem Blk.free (h : Blk w b t n f) (i : Nat) : w.frozen? ⟨b, i, none⟩ = false := by simp [World.frozen?, show w.heap[b]? = _ from h]
theorem Blk.set (h : Blk w b t n f) (i : Nat) (x : Int) : Blk (w.setCell ⟨b, i, none⟩ (.int .i64 x)) b t n (fun m => if m = i then x else f m) := by
  have := heap_setCell_same w b i _ t (.int .i64 x) h
  rw [iv_set] at this
  exact this
theorem Blk.congr (h : Blk w b t n f) {g : Nat → Int} (he : ∀ i, i < n → f i = g i) : Blk w b t n g := by unfold Blk at h ⊢; rw [h, iv_congr he]
theorem Blk.below (h : Blk w b t n f) (hb : Below w.heap.size w w') : Blk w' b t n f := (hb.block b h.lt).trans h
theorem Blk.keep {G : List Nat} (h : Blk w b t n f) (hk : Keep w w' G) (hb : b ∉ G) : Blk w' b t n f := (hk.block b h.lt hb).trans h
theorem Blk.of_block {c : Nat} (h : Blk w b t n f) (hb : w'.heap[b]? = w.heap[b]?) : Blk w' b t n f := hb.trans h
theorem Blk.new (w : World) (t : TypeId) (n : Nat) (f : Nat → Int) : Blk (w.alloc (.cells (iv n f) t)) w.heap.size t n f := heap_alloc_new w _
theorem Blk.setRow (h : Blk w b t n f) (g : Nat → Int) : Blk (w.setRow b (iv n g)) b t n g := setRow_heap w b _ _ t _ h
theorem Blk.range (h : Blk w b t n f) (o m : Nat) (hm : o + m ≤ n) : w.rangeAt b o (ivl m fun i => f (o + i)) := fun j v hv => by
  have hj : j < m := by
    have := (List.getElem?_eq_some_iff.1 hv).1
    rwa [ivl_length] at this
  rw [ivl_get _ _ j hj] at hv
  obtain rfl := Option.some.inj hv
  exact h.cell (o + j) (by omega)
theorem Blk.there (h : Blk w b t n f) (o m : Nat) (hm : o + m ≤ n) : w.there b o m := fun j hj => ⟨by rw [h.cell (o + j) (by omega)]; rfl, h.free _⟩
theorem Blk.sets (h : Blk w b t n f) : ∀ (m o s : Nat) (g : Nat → Int), Blk (w.setCells b o ((List.range' s m).map fun i => Value.int .i64 (g i))) b t n (fun c => if o ≤ c ∧ c < o + m then g (s + (c - o)) else f c) := by
  intro m
  induction m generalizing w f with
  | zero => intro o s g; exact h.congr fun i hi => by rw [if_neg (by omega)]
  | succ m ih =>
    intro o s g
    rw [List.range'_succ, List.map_cons]
    refine (ih (h.set o (g s)) (o + 1) (s + 1) g).congr fun i hi => ?_
    by_cases e : i = o
    · subst e
      rw [if_neg (by omega), if_pos rfl, if_pos (by omega)]
      congr 1; omega
    · by_cases e2 : o ≤ i ∧ i < o + (m + 1)
      · rw [if_pos (by omega), if_pos e2]
        congr 1; omega
      · rw [if_neg (by omega), if_neg e, if_neg e2]
theorem Blk.setl (h : Blk w b t n f) (o m : Nat) (g : Nat → Int) : Blk (w.setCells b o (ivl m g)) b t n (fun c => if o ≤ c ∧ c < o + m then g (c - o) else f c) := by
  have := h.sets m o 0 g
  rw [← List.range_eq_range'] at this
  exact this.congr fun i hi => by rw [Nat.zero_add]
end
theorem Keep.setCells (b : Nat) : ∀ (vs : List Value) (o : Nat) (w : World) (F : List Nat), b ∈ F → Keep w (w.setCells b o vs) F
  | [], _, _, _, _ => Keep.refl _ _
  | v :: vs, o, w, F, h => (Keep.setCell w ⟨b, o, none⟩ v F h).trans (Keep.setCells b vs (o + 1) _ F h)
/-- A result at r, not yet written, and what grows at c. -/
structure Rc (w0 w : World) (r c : Nat) (t : TypeId) (n : Nat) (f : Nat → Int) : Prop where
  res : Blk w r t n fun _ => 0
  cur : Blk w c t n f
  below : Below w0.heap.size w0 w
  new : w0.heap.size ≤ r ∧ w0.heap.size ≤ c
  ne : r ≠ c
section
variable {w0 w w' : World} {r c n : Nat} {t : TypeId} {f : Nat → Int}
theorem Rc.keep (h : Rc w0 w r c t n f) (hk : Keep w w' [c]) {g : Nat → Int} (hc : Blk w' c t n g) : Rc w0 w' r c t n g :=
  ⟨h.res.keep hk (by simp [h.ne]), hc, hk.below h.below (by intro j hj; rw [List.mem_singleton] at hj; rw [hj]; exact h.new.2), h.new, h.ne⟩
theorem Rc.set (h : Rc w0 w r c t n f) (i : Nat) (x : Int) : Rc w0 (w.setCell ⟨c, i, none⟩ (.int .i64 x)) r c t n (fun m => if m = i then x else f m) := h.keep (Keep.setCell _ _ _ _ (by simp)) (h.cur.set i x)
theorem Rc.later (h : Rc w0 w r c t n f) (hb : Below w.heap.size w w') : Rc w0 w' r c t n f := h.keep (Keep.of_below hb _) (h.cur.below hb)
theorem Rc.congr (h : Rc w0 w r c t n f) {g : Nat → Int} (he : ∀ i, i < n → f i = g i) : Rc w0 w r c t n g := ⟨h.res, h.cur.congr he, h.below, h.new, h.ne⟩
theorem Rc.done (h : Rc w0 w r c t n f) (g : Nat → Int) : (w.setRow r (iv n g)).heap[r]? = some (.cells (iv n g) t (0, 0)) ∧ Below w0.heap.size w0 (w.setRow r (iv n g)) :=
  ⟨h.res.setRow g, (Keep.setRow w r _ [r] (by simp)).below h.below (by intro j hj; rw [List.mem_singleton] at hj; rw [hj]; exact h.new.1)⟩
end
/-- The zero value of a type of n numbers. -/
theorem zero_of {t : TypeId} {n : Nat} (h : (Try.prog.info? t).map (fun i => i.zero) = some (some (.agg (iv n fun _ => 0)))) : ∀ w, (zeroValue t).run Try.prog w = .ok (.agg (iv n fun _ => 0)) w := by
  intro w
  obtain ⟨i, hi, hz⟩ := Option.map_eq_some_iff.1 h
  simp [zeroValue, typeInfo, hi, hz]
theorem zero76 : ∀ w, (zeroValue 76).run Try.prog w = .ok (.agg (iv 14 fun _ => 0)) w := zero_of (by kernel_rfl)
theorem zero58 : ∀ w, (zeroValue 58).run Try.prog w = .ok (.agg (iv 2 fun _ => 0)) w := zero_of (by kernel_rfl)
theorem zero60 : ∀ w, (zeroValue 60).run Try.prog w = .ok (.agg (iv 32 fun _ => 0)) w := zero_of (by kernel_rfl)
theorem zero47 : ∀ w, (zeroValue 47).run Try.prog w = .ok (.agg (iv 32 fun _ => 0)) w := zero_of (by kernel_rfl)
theorem size_of {t : TypeId} {n : Nat} (h : (Try.prog.info? t).map (·.size) = some n) (f : Nat → Int) : (Try.prog.info? t).map (·.size) = some (iv n f).size := by rw [iv_size]; exact h
theorem size76 (f : Nat → Int) : (Try.prog.info? 76).map (·.size) = some (iv 14 f).size := size_of (by kernel_rfl) f
theorem size58 (f : Nat → Int) : (Try.prog.info? 58).map (·.size) = some (iv 2 f).size := size_of (by kernel_rfl) f
theorem size60 (f : Nat → Int) : (Try.prog.info? 60).map (·.size) = some (iv 32 f).size := size_of (by kernel_rfl) f
theorem size47 (f : Nat → Int) : (Try.prog.info? 47).map (·.size) = some (iv 32 f).size := size_of (by kernel_rfl) f
end Go.Proofs.Ythoemgiadadfcaa
