/- A keyed order, in plain numbers; the walk of keyed.Order. -/
import Derived.Test.YthmiomncgkmnoaaDoorKeyNum
import Derived.Deep.OwnRows
import Derived.BigRegion
set_option linter.unusedVariables false
set_option linter.unusedSimpArgs false
namespace Go.Proofs.YthmiomncgkmnoaaDoor
open Go.RowKit Go.Sort Sip Kd
namespace Kd
def swp (l : List Nat) (i j : Nat) : List Nat := (l.set i (l.getD j 0)).set j (l.getD i 0)
theorem swp_length (l : List Nat) (i j : Nat) : (swp l i j).length = l.length := by simp [swp]
/-- The exchanges from i down to 1. -/
def ordK (f : Nat → Nat) : Nat → List Nat → List Nat
  | 0, l => l
  | i + 1, l => ordK f i (swp l (i + 1) (f (i + 1) % (i + 2)))
def ord (kl : List Nat) (sg n : Nat) : List Nat := ordK (fun i => num kl sg i) (n - 1) (List.range n)
/-- The first k places filled. -/
def st (n k : Nat) : List Nat := (List.range n).map fun i => if i < k then i else 0
theorem st_length (n k : Nat) : (st n k).length = n := by simp [st]
theorem st_zero (n : Nat) : st n 0 = List.replicate n 0 := by
  apply List.ext_getElem
  · simp [st]
  · intro i h1 h2; simp [st]
theorem st_all (n : Nat) : st n n = List.range n := by
  apply List.ext_getElem
  · simp [st]
  · intro i h1 h2
    have : i < n := by simpa using h2
    simp [st, this]
theorem st_set (n k : Nat) : (st n k).set k k = st n (k + 1) := by
  apply List.ext_getElem
  · simp [st]
  · intro i h1 h2
    simp only [st, List.getElem_set, List.getElem_map, List.getElem_range]
    by_cases e : k = i
    · subst e; rw [if_pos rfl, if_pos (by omega)]
    · rw [if_neg e]
      by_cases h : i < k
      · rw [if_pos h, if_pos (by omega)]
      · rw [if_neg h, if_neg (by omega)]
end Kd
theorem casts_set (l : List Nat) (i x : Nat) : (casts l).set i (x : Int) = casts (l.set i x) := by unfold casts; rw [List.map_set]
theorem info3 : (Tryd.prog.info? 3).map (fun i => (i.zero, i.size, i.bytes)) = some (some (.int .i64 0), 1, 8) := by kernel_rfl
theorem make_run (n : Nat) (hn : n ≤ 1000) (w : World) : (Instr.makeSlice 41 (.int .i64 (n : Nat)) (.int .i64 (n : Nat))).run Tryd.prog w = .ok (.slice (some ⟨w.heap.size, 0, none⟩) n n) (w.alloc (.cells (madeCells #[.int .i64 0] n) 3)) :=
  run_make_row' (P := Tryd.prog) 41 3 (.int .i64 0) 8 Tryd.underlying41 info3 rfl .i64 .i64 n (by omega) (by omega) w
theorem row_made (w : World) (n : Nat) : Row (w.alloc (.cells (madeCells #[.int .i64 0] n) 3)) w.heap.size .i64 (casts (List.replicate n 0)) := by
  have hrow : (w.alloc (.cells (madeCells #[.int .i64 0] n) 3)).heap[w.heap.size]? = some (.cells (madeCells #[.int .i64 0] n) 3 (0, 0)) := heap_alloc_new w _
  refine ⟨by simp, fun j hj => ⟨?_, frozen_of_row _ _ j _ 3 hrow⟩⟩
  rw [casts_length, List.length_replicate] at hj
  rw [cell_of_row _ _ j _ 3 (0, 0) hrow, casts_get]
  simp [madeCells, hj, Nat.mod_one, List.getD_eq_getElem?_getD, List.getElem?_replicate]
/-- The key at b, a row of numbers at g. -/
structure Od (w0 w : World) (b : Nat) (kl : List Nat) (g : Nat) (l : List Nat) : Prop where
  key : w.heap[b]? = some (.cells (keyV kl) 23 (0, 0))
  row : Row w g .i64 (casts l)
  below : Below w0.heap.size w0 w
  new : w0.heap.size ≤ g
  ne : b ≠ g
theorem Od.set {w0 w : World} {b g : Nat} {kl l : List Nat} (h : Od w0 w b kl g l) (i x : Nat) (hi : i < l.length) : Od w0 (w.setCell ⟨g, i, none⟩ (.int .i64 x)) b kl g (l.set i x) := by
  refine ⟨(Below.heap_setCell _ _ _ _ h.ne).trans h.key, ?_, below_gb h.below (gb_setCell _ ⟨g, i, none⟩ _) h.below.size h.new, h.new, h.ne⟩
  have := h.row.set i (x : Int) (by rw [casts_length]; exact hi)
  rw [casts_set] at this
  exact this
theorem Od.later {w0 w w' : World} {b g : Nat} {kl l : List Nat} (h : Od w0 w b kl g l) (hb : Below w.heap.size w w') : Od w0 w' b kl g l :=
  ⟨(hb.block b (Array.getElem?_eq_some_iff.1 h.key).1).trans h.key, h.row.below hb, h.below.trans (hb.mono h.below.size), h.new, h.ne⟩
theorem Od.swp {w0 w : World} {b g : Nat} {kl l : List Nat} (h : Od w0 w b kl g l) (i j : Nat) (hi : i < l.length) (hj : j < l.length) :
    Od w0 ((w.setCell ⟨g, i, none⟩ (.int .i64 (l.getD j 0 : Nat))).setCell ⟨g, j, none⟩ (.int .i64 (l.getD i 0 : Nat))) b kl g (Kd.swp l i j) :=
  (h.set i _ hi).set j _ (by rw [List.length_set]; exact hj)
theorem od_start (w : World) (kl : List Nat) (n : Nat) : Od w ((w.alloc (.cells (keyV kl) 23)).alloc (.cells (madeCells #[.int .i64 0] n) 3)) w.heap.size kl (w.heap.size + 1) (st n 0) := by
  have hb : Below w.heap.size w (w.alloc (.cells (keyV kl) 23)) := (Below.refl _ _).alloc (Nat.le_refl _) _
  have hr := row_made (w.alloc (.cells (keyV kl) 23)) n
  rw [World.size_alloc] at hr
  refine ⟨?_, by rw [st_zero]; exact hr, hb.alloc hb.size _, by omega, by omega⟩
  exact ((Below.refl _ _).alloc (Nat.le_refl _) _ : Below (w.alloc (.cells (keyV kl) 23)).heap.size (w.alloc (.cells (keyV kl) 23)) _).block _ (by simp) |>.trans (heap_alloc_new w _)
theorem order_nil (kv : Array Value) (sg n : Int) (hn : n < 1 ∨ 256 < n) (w : World) :
    Calls Tryd.prog 27 #[.agg kv, .int .u8 sg, .int .i64 n] w fun e w' => e = .returned (.slice none 0 0) ∧ Below w.heap.size w w' := by
  have hb : Below w.heap.size w (w.alloc (.cells kv 23)) := (Below.refl _ _).alloc (Nat.le_refl _) _
  rcases hn with h | h
  · go_enter Tryd.func27, Tryd.ntmps27
    go_wp2
    go_ret
    exact ⟨rfl, hb⟩
  · have h1 : ¬ n < 1 := by omega
    go_enter Tryd.func27, Tryd.ntmps27
    go_wp2
    go_ret
    exact ⟨rfl, hb⟩
end Go.Proofs.YthmiomncgkmnoaaDoor
