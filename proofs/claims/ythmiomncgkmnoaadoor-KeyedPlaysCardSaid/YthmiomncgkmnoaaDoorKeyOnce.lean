/- Each thing once: the walk of belfrylaw02.once. -/
import Derived.Test.YthmiomncgkmnoaaDoorKeyAwake
set_option linter.unusedVariables false
set_option linter.unusedSimpArgs false
namespace Go.Proofs.YthmiomncgkmnoaaDoor
open Go.RowKit Go.Sort Sip Kd
/-- Bits as a value. -/
def bV (n : Nat) (f : Nat → Bool) : Array Value := ((List.range n).map fun i => Value.bool (f i)).toArray
theorem bV_get (n : Nat) (f : Nat → Bool) (i : Nat) (hi : i < n) : (bV n f)[i]? = some (.bool (f i)) := by simp [bV, hi]
theorem bV_set (n : Nat) (f : Nat → Bool) (i : Nat) (b : Bool) : (bV n f).setIfInBounds i (.bool b) = bV n (fun m => if m = i then b else f m) := by
  unfold bV
  rw [List.setIfInBounds_toArray]
  congr 1
  apply List.ext_getElem
  · simp
  · intro j h1 h2
    simp only [List.getElem_set, List.getElem_map, List.getElem_range]
    by_cases e : i = j
    · subst e; rw [if_pos rfl, if_pos rfl]
    · rw [if_neg e, if_neg (fun h => e h.symm)]
theorem bV_made (n : Nat) : madeCells #[.bool false] n = bV n fun _ => false := by
  apply Array.ext_getElem?
  intro i
  by_cases hi : i < n
  · rw [bV_get n _ i hi]; simp [madeCells, hi, Nat.mod_one]
  · simp [madeCells, bV, hi]
theorem info4 : (Tryd.prog.info? 4).map (fun i => (i.zero, i.size, i.bytes)) = some (some (.bool false), 1, 1) := by kernel_rfl
theorem make_bools (n : Nat) (hn : n ≤ 1000) (w : World) : (Instr.makeSlice 60 (.int .i64 (n : Nat)) (.int .i64 (n : Nat))).run Tryd.prog w = .ok (.slice (some ⟨w.heap.size, 0, none⟩) n n) (w.alloc (.cells (bV n fun _ => false) 4)) := by
  rw [← bV_made]
  exact run_make_row' (P := Tryd.prog) 60 4 (.bool false) 1 Tryd.underlying60 info4 rfl .i64 .i64 n (by omega) (by omega) w
def Bt (w : World) (c n : Nat) (f : Nat → Bool) : Prop := w.heap[c]? = some (.cells (bV n f) 4 (0, 0))
/-- What k numbers have met. -/
def mt (l : List Nat) (k : Nat) : Nat → Bool := fun m => (List.range k).any fun i => l.getD i 0 == m
theorem mt_zero (l : List Nat) : mt l 0 = fun _ => false := rfl
theorem mt_step (l : List Nat) (k : Nat) : mt l (k + 1) = fun m => if m = l.getD k 0 then true else mt l k m := by
  funext m
  unfold mt
  rw [List.range_succ, List.any_append, List.any_cons, List.any_nil, Bool.or_false]
  by_cases e : m = l.getD k 0
  · rw [if_pos e, e]; simp
  · have : (l.getD k 0 == m) = false := by rw [beq_eq_false_iff_ne]; exact fun h => e h.symm
    rw [if_neg e, this, Bool.or_false]
/-- Each number below n, no two alike. -/
def Once (l : List Nat) (n : Nat) : Prop := (∀ i, i < n → l.getD i 0 < n) ∧ ∀ i j, i < n → j < n → l.getD i 0 = l.getD j 0 → i = j
theorem mt_new {l : List Nat} {n k : Nat} (h : Once l n) (hk : k < n) : mt l k (l.getD k 0) = false := by
  unfold mt
  rw [List.any_eq_false]
  intro i hi
  have hi' := List.mem_range.1 hi
  simp only [beq_iff_eq]
  intro e
  have := h.2 i k (by omega) hk e
  omega
/-- What the rounds keep. -/
structure Oc (w0 w : World) (c n : Nat) (f : Nat → Bool) : Prop where
  met : Bt w c n f
  below : Below w0.heap.size w0 w
  new : w0.heap.size ≤ c
theorem Oc.set {w0 w : World} {c n : Nat} {f : Nat → Bool} (h : Oc w0 w c n f) (i : Nat) : Oc w0 (w.setCell ⟨c, i, none⟩ (.bool true)) c n (fun m => if m = i then true else f m) := by
  refine ⟨?_, below_gb h.below (gb_setCell _ ⟨c, i, none⟩ _) h.below.size h.new, h.new⟩
  have := heap_setCell_same w c i _ 4 (.bool true) h.met
  rw [bV_set] at this
  exact this
set_option maxRecDepth 100000 in
set_option maxHeartbeats 1600000 in
theorem once_is (g cap n : Nat) (l : List Nat) (hn : n ≤ 256) (ho : Once l n) (w : World) (hg : g < w.heap.size) (hc : ∀ i, i < n → w.cell? ⟨g, i, none⟩ = some (.int .i64 (l.getD i 0 : Nat))) :
    Calls Tryd.prog 28 #[.slice (some ⟨g, 0, none⟩) n cap, .int .i64 (n : Nat)] w fun e w' => e = .returned (.bool true) ∧ Below w.heap.size w w' := by
  have hmk := make_bools n (by omega)
  have h0 : Hid (Oc w (w.alloc (.cells (bV n fun _ => false) 4)) w.heap.size n (mt l 0)) := ⟨heap_alloc_new w _, (Below.refl _ _).alloc (Nat.le_refl _) _, Nat.le_refl _⟩
  have HO := Lib.hid ho
  have HC := Lib.hid hc
  have HGT := Lib.hid hg
  clear ho hc hg
  go_enter Tryd.func28, Tryd.ntmps28
  go_upto_region 2 with (fail)
  generalize w.alloc (.cells (bV n fun _ => false) 4) = W at *
  obtain ⟨c, hc0⟩ : ∃ c, c = w.heap.size := ⟨_, rfl⟩
  rw [← hc0] at h0
  rw [← hc0]
  clear hc0 hmk
  go_wp2
  go_loopw [6] (fun i wr => ∃ k : Nat, k ≤ n ∧ i = .int .i64 k ∧ Hid (Oc w wr c n (mt l k))) (fun i _ => n - (intOf i).toNat)
  case atStart => exact ⟨0, by omega, rfl, h0⟩
  case round =>
    clear h0
    obtain ⟨k, hk, rfl, hA⟩ := hrel
    obtain ⟨wo, rfl⟩ : ∃ wo : World, wo = wr := ⟨_, rfl⟩
    by_cases hlt : k < n
    · have l1 : wo.cell? ⟨g, k, none⟩ = some (.int .i64 (l.getD k 0 : Nat)) := (hA.out.below.cell HGT.out).trans (HC.out k hlt)
      have hXl := HO.out.1 k hlt
      have hnew := mt_new HO.out hlt
      have hst := mt_step l k
      obtain ⟨X, hX⟩ : ∃ X, X = l.getD k 0 := ⟨_, rfl⟩
      rw [← hX] at l1 hXl hnew hst
      have l2 : wo.cell? ⟨c, X, none⟩ = some (.bool false) := by
        rw [cell_of_row wo c X _ 4 (0, 0) hA.out.met, bV_get n _ X hXl, hnew]
      have hf : wo.frozen? ⟨c, X, none⟩ = false := frozen_of_row wo c X _ 4 hA.out.met
      have hN : Hid (Oc w (wo.setCell ⟨c, X, none⟩ (.bool true)) c n (mt l (k + 1))) := by
        show Oc w _ c n _
        rw [hst]; exact hA.out.set X
      have hXn : (X : Int) < (n : Int) := by omega
      clear hA hst hnew hX
      go_wp2
      go_roundw
      case rel => exact ⟨k + 1, by omega, by go_num, hN⟩
      case measure => simp [intOf]; omega
    · obtain rfl : n = k := by omega
      have hbw : Hid (Below w.heap.size w wo) := hA.out.below
      clear hA
      go_wp2
      go_ret
      exact ⟨rfl, hbw.out⟩
end Go.Proofs.YthmiomncgkmnoaaDoor
