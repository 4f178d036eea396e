/- Words of 127 bits as values and as blocks; the walks of bch.Distance, Info, Syndromes, Is. -/
import Derived.Test.YthponlnklmhbeaaFieldWalk
import Derived.Test.YthponlnklmhbeaaBchPure
import Derived.Test.YthponlnklmhbeaaQuietTail
import Derived.Test.YthponlnklmhbeaaRowOf
import Derived.Laws.Tables
set_option linter.unusedVariables false
set_option linter.unusedSimpArgs false
namespace Go.Proofs.Ythponlnklmhbeaa
open Go.RowKit Go.Sort F7
/-- A word as a value. -/
def wordV (f : Nat → Bool) : Array Value := ((List.range 127).map fun i => Value.bool (f i)).toArray
theorem wordV_size (f : Nat → Bool) : (wordV f).size = 127 := by simp [wordV]
theorem wordV_get (f : Nat → Bool) (i : Nat) (hi : i < 127) : (wordV f)[i]? = some (.bool (f i)) := by
  simp [wordV, hi]
theorem wordV_congr {f g : Nat → Bool} (h : ∀ i, i < 127 → f i = g i) : wordV f = wordV g := by
  unfold wordV
  congr 1
  apply List.map_congr_left
  intro i hi
  rw [h i (List.mem_range.1 hi)]
theorem wordV_set (f : Nat → Bool) (i : Nat) (b : Bool) : (wordV f).setIfInBounds i (.bool b) = wordV (fun m => if m = i then b else f m) := by
  unfold wordV
  rw [List.setIfInBounds_toArray]
  congr 1
  apply List.ext_getElem
  · simp
  · intro j h1 h2
    simp only [List.getElem_set, List.getElem_map, List.getElem_range]
    by_cases e : i = j
    · subst e; rw [if_pos rfl, if_pos rfl]
    · rw [if_neg e, if_neg (fun h => e h.symm)]
theorem wordV_one (f : Nat → Bool) : (wordV f).all (·.oneCell') = true := by
  simp [wordV, Value.oneCell']
theorem run_index_row {P : Program} {t e : TypeId} {n : Nat} (ht : P.underlying t = some (.array n e)) (w : World) (hsz : (sizeOf e).run P w = .ok 1 w) (hagg : (isAgg e).run P w = .ok false w)
    (cs : Array Value) (k : IntKind) (i : Nat) (hi : i < n) (v : Value) (hv : cs[i]? = some v) : (Instr.index t (.agg cs) (.int k i)).run P w = .ok v w := by
  unfold Instr.index
  simp [asIntOf, Sem.run_bind, run_underlying ht, hsz, part, hagg, hv, hi]
theorem word_run (w : World) (f : Nat → Bool) (k : Nat) (hk : k < 127) : (Instr.index 41 (.agg (wordV f)) (.int .i64 k)).run Try.prog w = .ok (.bool (f k)) w :=
  run_index_row Try.underlying41 w (by kernel_rfl) (by kernel_rfl) _ _ k hk _ (wordV_get f k hk)
/-- Block b is the word f. -/
def Wd (t : TypeId) (w : World) (b : Nat) (f : Nat → Bool) : Prop := w.heap[b]? = some (.cells (wordV f) t (0, 0))
theorem Wd.cell {t : TypeId} {w : World} {b : Nat} {f : Nat → Bool} (h : Wd t w b f) (i : Nat) (hi : i < 127) : w.cell? ⟨b, i, none⟩ = some (.bool (f i)) := (cell_of_row w b i _ t (0, 0) h).trans (wordV_get f i hi)
theorem Wd.free {t : TypeId} {w : World} {b : Nat} {f : Nat → Bool} (h : Wd t w b f) (i : Nat) : w.frozen? ⟨b, i, none⟩ = false := frozen_of_row w b i _ t h
theorem Wd.lt {t : TypeId} {w : World} {b : Nat} {f : Nat → Bool} (h : Wd t w b f) : b < w.heap.size := (Array.getElem?_eq_some_iff.1 h).1
theorem Wd.below {t : TypeId} {w w' : World} {b : Nat} {f : Nat → Bool} (h : Wd t w b f) (hb : Below w.heap.size w w') : Wd t w' b f := (hb.block b h.lt).trans h
theorem Wd.keep {t : TypeId} {w w' : World} {b : Nat} {f : Nat → Bool} {F : List Nat} (h : Wd t w b f) (hk : Keep w w' F) (hb : b ∉ F) : Wd t w' b f := (hk.block b h.lt hb).trans h
theorem Wd.set {t : TypeId} {w : World} {b : Nat} {f : Nat → Bool} (h : Wd t w b f) (i : Nat) (x : Bool) : Wd t (w.setCell ⟨b, i, none⟩ (.bool x)) b (fun m => if m = i then x else f m) := by
  have := heap_setCell_same w b i _ t (.bool x) h
  rw [wordV_set] at this
  exact this
theorem Wd.congr {t : TypeId} {w : World} {b : Nat} {f g : Nat → Bool} (h : Wd t w b f) (he : ∀ i, i < 127 → f i = g i) : Wd t w b g := by
  unfold Wd; rw [← wordV_congr he]; exact h
theorem Wd.drewN {t : TypeId} {w : World} {b : Nat} {f : Nat → Bool} (h : Wd t w b f) (k : Nat) : Wd t (w.drewN k) b f := h
theorem Wd.boxed (w : World) (t : TypeId) (f : Nat → Bool) : Wd t (w.alloc (.cells (wordV f) t)) w.heap.size f := heap_alloc_new w _
/-- How many bits of the first n are unlike. -/
def dist (f g : Nat → Bool) (n : Nat) : Nat := (List.range n).countP fun i => f i != g i
theorem dist_succ (f g : Nat → Bool) (n : Nat) : dist f g (n + 1) = dist f g n + if f n != g n then 1 else 0 := by
  unfold dist
  rw [List.range_succ, List.countP_append, List.countP_singleton]
theorem dist_le (f g : Nat → Bool) (n : Nat) : dist f g n ≤ n := by
  have := List.countP_le_length (p := fun i => f i != g i) (l := List.range n)
  rw [List.length_range] at this
  exact this
set_option maxRecDepth 100000 in
theorem distance_is (f g : Nat → Bool) (w : World) : Calls Try.prog 33 #[.agg (wordV f), .agg (wordV g)] w fun e w' => e = .returned (.int .i64 (dist f g 127 : Nat)) ∧ Below w.heap.size w w' := by
  obtain ⟨b, hb⟩ : ∃ b, b = w.heap.size := ⟨_, rfl⟩
  obtain ⟨W, hW⟩ : ∃ W, W = (w.alloc (.cells (wordV f) 41)).alloc (.cells (wordV g) 41) := ⟨_, rfl⟩
  have h1 : Wd 41 W b f := by
    rw [hW, hb]; exact (Wd.boxed w 41 f).below ((Below.refl _ _).alloc (Nat.le_refl _) _)
  have h2 : Wd 41 W (b + 1) g := by
    have := Wd.boxed (w.alloc (.cells (wordV f) 41)) 41 g
    rw [World.size_alloc] at this
    rw [hW, hb]; exact this
  have HB : Hid (Below w.heap.size w W) := by show Below w.heap.size w W; rw [hW]; exact ((Below.refl _ _).alloc (Nat.le_refl _) _).alloc (by simp) _
  have H1 := Lib.hid h1
  have H2 := Lib.hid h2
  have HW := Lib.hid hW
  have hb' := hb.symm
  clear h1 h2 hW hb
  go_enter Try.func33, Try.ntmps33
  go_wp2
  rw [← HW.out]
  clear HW hb'
  go_loopw [5, 7] (fun n i wr => ∃ k : Nat, k ≤ 127 ∧ i = .int .i64 k ∧ n = .int .i64 (dist f g k : Nat) ∧ Hid (∃ q, wr = W.drewN q)) (fun _ i _ => 127 - (intOf i).toNat)
  case atStart => exact ⟨0, by omega, rfl, rfl, Lib.hid ⟨0, rfl⟩⟩
  case round =>
    obtain ⟨k, hk, rfl, rfl, hw⟩ := hrel
    by_cases hlt : k < 127
    · have c1 : wr.cell? ⟨b, k, none⟩ = some (.bool (f k)) := by obtain ⟨q, rfl⟩ := hw.out; exact (H1.out.drewN q).cell k hlt
      have c2 : wr.cell? ⟨b + 1, k, none⟩ = some (.bool (g k)) := by obtain ⟨q, rfl⟩ := hw.out; exact (H2.out.drewN q).cell k hlt
      have hst := dist_succ f g k
      have hle := dist_le f g k
      cases hf : f k <;> cases hg : g k
      all_goals
        rw [hf] at c1
        rw [hg] at c2
        rw [hf, hg] at hst
        have HST := Lib.hid hst
        clear hst hf hg
        go_wp2
        go_quiet (fail)
        go_wp2
        go_roundw
        case rel => exact ⟨k + 1, by omega, by go_num, by rw [HST.out]; first | rfl | go_num, Lib.hid (by obtain ⟨q, rfl⟩ := hw.out; exact ⟨_, drew2 _ _ _⟩)⟩
        case measure => simp [intOf]; omega
    · obtain rfl : k = 127 := by omega
      go_wp2
      go_ret
      obtain ⟨q, rfl⟩ := hw.out
      exact ⟨rfl, HB.out.trans ((below_drewN W q).mono HB.out.size)⟩
end Go.Proofs.Ythponlnklmhbeaa
