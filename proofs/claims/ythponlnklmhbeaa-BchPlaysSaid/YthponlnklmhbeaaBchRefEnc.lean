/- The document's codeword: its walk. -/
import Derived.Test.YthponlnklmhbeaaBchRefGen
import Derived.Test.YthponlnklmhbeaaBchEnc
set_option linter.unusedVariables false
set_option linter.unusedSimpArgs false
namespace Go.Proofs.Ythponlnklmhbeaa
open Go.RowKit Go.Sort F7
def bi (b : Bool) : Int := if b = true then 1 else 0
/-- 127 numbers that are 0 or 1, as a value. -/
def intV (f : Nat → Bool) : Array Value := ((List.range 127).map fun i => Value.int .i64 (bi (f i))).toArray
theorem intV_get (f : Nat → Bool) (i : Nat) (hi : i < 127) : (intV f)[i]? = some (.int .i64 (bi (f i))) := by simp [intV, hi]
theorem intV_set (f : Nat → Bool) (i : Nat) (b : Bool) : (intV f).setIfInBounds i (.int .i64 (bi b)) = intV (fun m => if m = i then b else f m) := by
  unfold intV
  rw [List.setIfInBounds_toArray]
  congr 1
  apply List.ext_getElem
  · simp
  · intro j h1 h2
    simp only [List.getElem_set, List.getElem_map, List.getElem_range]
    by_cases e : i = j
    · subst e; rw [if_pos rfl, if_pos rfl]
    · rw [if_neg e, if_neg (fun h => e h.symm)]
theorem zero53 : ∀ w, (zeroValue 53).run Try.prog w = .ok (.agg (intV fun _ => false)) w := by
  have h : (Try.prog.info? 53).map (fun i => i.zero) = some (some (.agg (intV fun _ => false))) := by kernel_rfl
  intro w
  obtain ⟨i, hi, hz⟩ := Option.map_eq_some_iff.1 h
  simp [zeroValue, typeInfo, hi, hz]
def Wi (w : World) (b : Nat) (f : Nat → Bool) : Prop := w.heap[b]? = some (.cells (intV f) 53 (0, 0))
theorem Wi.cell {w : World} {b : Nat} {f : Nat → Bool} (h : Wi w b f) (i : Nat) (hi : i < 127) : w.cell? ⟨b, i, none⟩ = some (.int .i64 (bi (f i))) := (cell_of_row w b i _ 53 (0, 0) h).trans (intV_get f i hi)
theorem Wi.free {w : World} {b : Nat} {f : Nat → Bool} (h : Wi w b f) (i : Nat) : w.frozen? ⟨b, i, none⟩ = false := frozen_of_row w b i _ 53 h
theorem Wi.lt {w : World} {b : Nat} {f : Nat → Bool} (h : Wi w b f) : b < w.heap.size := (Array.getElem?_eq_some_iff.1 h).1
theorem Wi.below {w w' : World} {b : Nat} {f : Nat → Bool} (h : Wi w b f) (hb : Below w.heap.size w w') : Wi w' b f := (hb.block b h.lt).trans h
theorem Wi.keep {w w' : World} {b : Nat} {f : Nat → Bool} {F : List Nat} (h : Wi w b f) (hk : Keep w w' F) (hb : b ∉ F) : Wi w' b f := (hk.block b h.lt hb).trans h
theorem Wi.set {w : World} {b : Nat} {f : Nat → Bool} (h : Wi w b f) (i : Nat) (x : Bool) : Wi (w.setCell ⟨b, i, none⟩ (.int .i64 (bi x))) b (fun m => if m = i then x else f m) := by
  have := heap_setCell_same w b i _ 53 (.int .i64 (bi x)) h
  rw [intV_set] at this
  exact this
/-- The blocks of the document's Encode. -/
structure Rc (w0 w : World) (r a c : Nat) (fa fc : Nat → Bool) : Prop where
  word : Wd 39 w a fa
  rest : Wi w c fc
  res : Wd 39 w r fun _ => false
  below : Below w0.heap.size w0 w
  new : w0.heap.size ≤ r ∧ w0.heap.size ≤ a ∧ w0.heap.size ≤ c
  ne : r ≠ a ∧ r ≠ c ∧ a ≠ c
theorem Rc.setA {w0 w : World} {r a c : Nat} {fa fc : Nat → Bool} (h : Rc w0 w r a c fa fc) (i : Nat) (x : Bool) : Rc w0 (w.setCell ⟨a, i, none⟩ (.bool x)) r a c (fun m => if m = i then x else fa m) fc := by
  have hk := Keep.setCell w ⟨a, i, none⟩ (.bool x) [a] (by simp)
  obtain ⟨n1, n2, n3⟩ := h.ne
  exact ⟨h.word.set i x, h.rest.keep hk (by simpa using fun e => n3 e.symm), h.res.keep hk (by simpa using n1), below_gb h.below (gb_setCell _ ⟨a, i, none⟩ _) h.below.size h.new.2.1, h.new, h.ne⟩
theorem Rc.setC {w0 w : World} {r a c : Nat} {fa fc : Nat → Bool} (h : Rc w0 w r a c fa fc) (i : Nat) (x : Bool) : Rc w0 (w.setCell ⟨c, i, none⟩ (.int .i64 (bi x))) r a c fa (fun m => if m = i then x else fc m) := by
  have hk := Keep.setCell w ⟨c, i, none⟩ (.int .i64 (bi x)) [c] (by simp)
  obtain ⟨n1, n2, n3⟩ := h.ne
  exact ⟨h.word.keep hk (by simpa using n3), h.rest.set i x, h.res.keep hk (by simpa using n2), below_gb h.below (gb_setCell _ ⟨c, i, none⟩ _) h.below.size h.new.2.2, h.new, h.ne⟩
theorem Rc.later {w0 w w' : World} {r a c : Nat} {fa fc : Nat → Bool} (h : Rc w0 w r a c fa fc) (hb : Below w.heap.size w w') : Rc w0 w' r a c fa fc :=
  ⟨h.word.below hb, h.rest.below hb, h.res.below hb, h.below.trans (hb.mono h.below.size), h.new, h.ne⟩
theorem Rc.done {w0 w : World} {r a c : Nat} {fa fc : Nat → Bool} (h : Rc w0 w r a c fa fc) (f : Nat → Bool) : (w.setRow r (wordV f)).heap[r]? = some (.cells (wordV f) 39 (0, 0)) ∧ Below w0.heap.size w0 (w.setRow r (wordV f)) :=
  ⟨setRow_heap w r _ _ 39 _ h.res, (Keep.setRow w r _ [r] (by simp)).below h.below (by intro j hj; rw [List.mem_singleton] at hj; rw [hj]; exact h.new.1)⟩
/-- The same beside the generator's row. -/
structure Rg (w0 w : World) (r a c g : Nat) (fa fc : Nat → Bool) : Prop where
  rc : Rc w0 w r a c fa fc
  row : Row w g .i64 (casts GB)
  ne : g ≠ a ∧ g ≠ c
theorem Rg.setA {w0 w : World} {r a c g : Nat} {fa fc : Nat → Bool} (h : Rg w0 w r a c g fa fc) (i : Nat) (x : Bool) : Rg w0 (w.setCell ⟨a, i, none⟩ (.bool x)) r a c g (fun m => if m = i then x else fa m) fc :=
  ⟨h.rc.setA i x, h.row.other ⟨a, i, none⟩ _ h.ne.1, h.ne⟩
theorem Rg.setC {w0 w : World} {r a c g : Nat} {fa fc : Nat → Bool} (h : Rg w0 w r a c g fa fc) (i : Nat) (x : Bool) : Rg w0 (w.setCell ⟨c, i, none⟩ (.int .i64 (bi x))) r a c g fa (fun m => if m = i then x else fc m) :=
  ⟨h.rc.setC i x, h.row.other ⟨c, i, none⟩ _ h.ne.2, h.ne⟩
theorem Rg.drewN {w0 w : World} {r a c g : Nat} {fa fc : Nat → Bool} (h : Rg w0 w r a c g fa fc) (k : Nat) : Rg w0 (w.drewN k) r a c g fa fc :=
  ⟨h.rc.later (below_drewN w k), h.row.below (below_drewN w k), h.ne⟩
theorem up_off (x k : Nat) (h : x.testBit k = false) : up x (k + 1) = up x k := by
  rw [up_step]
  funext m
  by_cases e : m = 63 + k
  · subst e
    rw [if_pos rfl, h]
    unfold up
    simp
  · rw [if_neg e]
theorem up_on (x k : Nat) (h : x.testBit k = true) : up x (k + 1) = fun m => if m = 63 + k then true else up x k m := by rw [up_step, h]
theorem xor_bi (a b : Bool) : bits BinOp.xor .i64 (bi a) (bi b) = bi (a != b) := by cases a <;> cases b <;> decide
theorem gb_bi (m : Nat) (hm : m < 64) : ((GB.getD m 0 : Nat) : Int) = bi (GB.getD m 0 == 1) := by
  have : ∀ m, m < 64 → ((GB.getD m 0 : Nat) : Int) = bi (GB.getD m 0 == 1) := by decide
  exact this m hm
/-- The rest laid over the word, k bits of it. -/
def ov (f h : Nat → Bool) (k : Nat) : Nat → Bool := fun m => if m < k then f m else h m
theorem ov_zero (f h : Nat → Bool) : ov f h 0 = h := by funext m; simp [ov]
theorem ov_step (f h : Nat → Bool) (k : Nat) : ov f h (k + 1) = fun m => if m = k then f k else ov f h k m := by
  funext m
  unfold ov
  by_cases e : m = k
  · subst e; rw [if_pos (by omega), if_pos rfl]
  · rw [if_neg e]
    by_cases h2 : m < k
    · rw [if_pos h2, if_pos (by omega)]
    · rw [if_neg h2, if_neg (by omega)]
end Go.Proofs.Ythponlnklmhbeaa
