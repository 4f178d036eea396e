/- Two lists that grow, each with its box: what holds of them. -/
import Derived.Test.YthoemgiadadfcaaWsChunk
set_option linter.unusedVariables false
set_option linter.unusedSimpArgs false
namespace Go.Proofs.Ythoemgiadadfcaa
open Go.RowKit Go.Sort Ws
/-- Two rows of numbers and two boxes, none of them in the blocks X, all behind n0. -/
structure Sv (n0 : Nat) (X : List Nat) (w : World) (v1 v2 : Value) (l1 l2 : List Int) (B1 B2 : Nat) (x1 x2 : Value) : Prop where
  o1 : Own w 3 .i64 v1 l1
  o2 : Own w 3 .i64 v2 l2
  dis : ∀ j ∈ foot v1, j ∉ foot v2
  b1 : w.heap[B1]? = some (.cells #[x1] 22 (0, 0))
  b2 : w.heap[B2]? = some (.cells #[x2] 22 (0, 0))
  nb : B1 ≠ B2
  n1 : ∀ j ∈ foot v1, n0 ≤ j ∧ j ∉ X
  n2 : ∀ j ∈ foot v2, n0 ≤ j ∧ j ∉ X
  nB1 : n0 ≤ B1 ∧ B1 ∉ X
  nB2 : n0 ≤ B2 ∧ B2 ∉ X
  old : ∀ j ∈ X, j < w.heap.size
section
variable {n0 : Nat} {X : List Nat} {w w' : World} {v1 v2 : Value} {l1 l2 : List Int} {B1 B2 : Nat} {x1 x2 : Value}
theorem Sv.lt1 (h : Sv n0 X w v1 v2 l1 l2 B1 B2 x1 x2) : B1 < w.heap.size := (Array.getElem?_eq_some_iff.1 h.b1).1
theorem Sv.lt2 (h : Sv n0 X w v1 v2 l1 l2 B1 B2 x1 x2) : B2 < w.heap.size := (Array.getElem?_eq_some_iff.1 h.b2).1
theorem Sv.keep (h : Sv n0 X w v1 v2 l1 l2 B1 B2 x1 x2) {G : List Nat} (hk : Keep w w' G) (hg : ∀ j ∈ G, j ∉ foot v1 ∧ j ∉ foot v2 ∧ j ≠ B1 ∧ j ≠ B2) : Sv n0 X w' v1 v2 l1 l2 B1 B2 x1 x2 :=
  ⟨h.o1.keep hk fun j hj hj2 => (hg j hj2).1 hj, h.o2.keep hk fun j hj hj2 => (hg j hj2).2.1 hj, h.dis,
   (hk.block B1 h.lt1 (fun hj => (hg _ hj).2.2.1 rfl)).trans h.b1, (hk.block B2 h.lt2 (fun hj => (hg _ hj).2.2.2 rfl)).trans h.b2, h.nb, h.n1, h.n2, h.nB1, h.nB2, fun j hj => Nat.lt_of_lt_of_le (h.old j hj) hk.size⟩
theorem Sv.later (h : Sv n0 X w v1 v2 l1 l2 B1 B2 x1 x2) (hb : Below w.heap.size w w') : Sv n0 X w' v1 v2 l1 l2 B1 B2 x1 x2 := h.keep (Keep.of_below hb []) (by simp)
theorem Sv.app1 (h : Sv n0 X w v1 v2 l1 l2 B1 B2 x1 x2) {g cap : Nat} {ys : List Int} (ho : Own w' 3 .i64 (.slice (some ⟨g, 0, none⟩) ys.length cap) ys) (hk : Keep w w' (foot v1)) (hf : g ∈ foot v1 ∨ w.heap.size ≤ g) (hn : n0 ≤ w.heap.size) :
    Sv n0 X w' (.slice (some ⟨g, 0, none⟩) ys.length cap) v2 ys l2 B1 B2 x1 x2 := by
  have e1 : B1 ∉ foot v1 := h.o1.ne h.b1 (by decide)
  have e2 : B2 ∉ foot v1 := h.o1.ne h.b2 (by decide)
  refine ⟨ho, h.o2.keep hk fun j hj hj2 => h.dis j hj2 hj, ?_, (hk.block B1 h.lt1 e1).trans h.b1, (hk.block B2 h.lt2 e2).trans h.b2, h.nb, ?_, h.n2, h.nB1, h.nB2, fun j hj => Nat.lt_of_lt_of_le (h.old j hj) hk.size⟩
  · intro j hj hj2
    rw [foot_slice, List.mem_singleton] at hj
    subst hj
    rcases hf with h1 | h1
    · exact h.dis _ h1 hj2
    · have := h.o2.lt _ hj2; omega
  · intro j hj
    rw [foot_slice, List.mem_singleton] at hj
    subst hj
    rcases hf with h1 | h1
    · exact h.n1 _ h1
    · exact ⟨by omega, fun hx => by have := h.old _ hx; omega⟩
theorem Sv.app2 (h : Sv n0 X w v1 v2 l1 l2 B1 B2 x1 x2) {g cap : Nat} {ys : List Int} (ho : Own w' 3 .i64 (.slice (some ⟨g, 0, none⟩) ys.length cap) ys) (hk : Keep w w' (foot v2)) (hf : g ∈ foot v2 ∨ w.heap.size ≤ g) (hn : n0 ≤ w.heap.size) :
    Sv n0 X w' v1 (.slice (some ⟨g, 0, none⟩) ys.length cap) l1 ys B1 B2 x1 x2 := by
  have e1 : B1 ∉ foot v2 := h.o2.ne h.b1 (by decide)
  have e2 : B2 ∉ foot v2 := h.o2.ne h.b2 (by decide)
  refine ⟨h.o1.keep hk fun j hj hj2 => h.dis j hj hj2, ho, ?_, (hk.block B1 h.lt1 e1).trans h.b1, (hk.block B2 h.lt2 e2).trans h.b2, h.nb, h.n1, ?_, h.nB1, h.nB2, fun j hj => Nat.lt_of_lt_of_le (h.old j hj) hk.size⟩
  · intro j hj hj2
    rw [foot_slice, List.mem_singleton] at hj2
    subst hj2
    rcases hf with h1 | h1
    · exact h.dis _ hj h1
    · have := h.o1.lt _ hj; omega
  · intro j hj
    rw [foot_slice, List.mem_singleton] at hj
    subst hj
    rcases hf with h1 | h1
    · exact h.n2 _ h1
    · exact ⟨by omega, fun hx => by have := h.old _ hx; omega⟩
theorem Sv.put1 (h : Sv n0 X w v1 v2 l1 l2 B1 B2 x1 x2) (y : Value) : Sv n0 X (w.setCell ⟨B1, 0, none⟩ y) v1 v2 l1 l2 B1 B2 y x2 := by
  have hk : Keep w (w.setCell ⟨B1, 0, none⟩ y) [B1] := Keep.setCell _ _ _ _ (by simp)
  have e1 : B1 ∉ foot v1 := h.o1.ne h.b1 (by decide)
  have e2 : B1 ∉ foot v2 := h.o2.ne h.b1 (by decide)
  refine ⟨h.o1.keep hk fun j hj hj2 => ?_, h.o2.keep hk fun j hj hj2 => ?_, h.dis, ?_, (hk.block B2 h.lt2 (by simp [Ne.symm h.nb])).trans h.b2, h.nb, h.n1, h.n2, h.nB1, h.nB2, fun j hj => Nat.lt_of_lt_of_le (h.old j hj) hk.size⟩
  · rw [List.mem_singleton] at hj2; subst hj2; exact e1 hj
  · rw [List.mem_singleton] at hj2; subst hj2; exact e2 hj
  · exact heap_setCell_same w B1 0 #[x1] 22 y h.b1
theorem Sv.put2 (h : Sv n0 X w v1 v2 l1 l2 B1 B2 x1 x2) (y : Value) : Sv n0 X (w.setCell ⟨B2, 0, none⟩ y) v1 v2 l1 l2 B1 B2 x1 y := by
  have hk : Keep w (w.setCell ⟨B2, 0, none⟩ y) [B2] := Keep.setCell _ _ _ _ (by simp)
  have e1 : B2 ∉ foot v1 := h.o1.ne h.b2 (by decide)
  have e2 : B2 ∉ foot v2 := h.o2.ne h.b2 (by decide)
  refine ⟨h.o1.keep hk fun j hj hj2 => ?_, h.o2.keep hk fun j hj hj2 => ?_, h.dis, (hk.block B1 h.lt1 (by simp [h.nb])).trans h.b1, ?_, h.nb, h.n1, h.n2, h.nB1, h.nB2, fun j hj => Nat.lt_of_lt_of_le (h.old j hj) hk.size⟩
  · rw [List.mem_singleton] at hj2; subst hj2; exact e1 hj
  · rw [List.mem_singleton] at hj2; subst hj2; exact e2 hj
  · exact heap_setCell_same w B2 0 #[x2] 22 y h.b2
/-- What such steps keep: the blocks X, what lay below n0, and whatever is no cells. -/
structure Kx (n0 : Nat) (X : List Nat) (W w : World) : Prop where
  lies : Lies X W w
  below : Below n0 W w
  ko : KeepsOthers W w
theorem Kx.refl (n0 : Nat) (X : List Nat) (W : World) : Kx n0 X W W := ⟨Lies.refl _ _, Below.refl _ _, KeepsOthers.refl _⟩
theorem Kx.trans {n0 : Nat} {X : List Nat} {A B C : World} (h : Kx n0 X A B) (k : Kx n0 X B C) : Kx n0 X A C := ⟨h.lies.trans k.lies, h.below.trans k.below, h.ko.trans k.ko⟩
theorem Kx.of_keep {G : List Nat} (hk : Keep w w' G) (hx : ∀ j ∈ X, j < w.heap.size) (hn : n0 ≤ w.heap.size) (hg : ∀ j ∈ G, (n0 ≤ j ∧ j ∉ X) ∧ ∀ o, w.heap[j]? = some o → o.isCells = true) : Kx n0 X w w' := by
  refine ⟨fun j hj => hk.block j (hx j hj) fun hj2 => (hg j hj2).1.2 hj, ⟨hk.os, hk.tape, hk.output, hk.size, fun j hj => hk.block j (by omega) fun hj2 => by have := (hg j hj2).1.1; omega⟩, hk.size, fun k o hk2 ho => ?_⟩
  refine (hk.block k (Array.getElem?_eq_some_iff.1 hk2).1 fun hj => ?_).trans hk2
  rw [(hg k hj).2 o hk2] at ho; cases ho
theorem Own.cells {e : TypeId} {k : IntKind} {v : Value} {xs : List Int} (h : Own w e k v xs) : ∀ j ∈ foot v, ∀ o, w.heap[j]? = some o → o.isCells = true := by
  intro j hj o ho
  rcases h.2 with ⟨h1, _⟩ | ⟨g, cap, cur, rfl, _, hh, _⟩
  · rw [h1] at hj; simp [foot, Value.ownBlock] at hj
  · simp [foot, Value.ownBlock] at hj
    subst hj
    rw [hh] at ho
    obtain rfl := Option.some.inj ho
    rfl
theorem Sv.kx1 (h : Sv n0 X w v1 v2 l1 l2 B1 B2 x1 x2) (hn : n0 ≤ w.heap.size) (hk : Keep w w' (foot v1)) : Kx n0 X w w' := Kx.of_keep hk h.old hn fun j hj => ⟨h.n1 j hj, h.o1.cells j hj⟩
theorem Sv.kx2 (h : Sv n0 X w v1 v2 l1 l2 B1 B2 x1 x2) (hn : n0 ≤ w.heap.size) (hk : Keep w w' (foot v2)) : Kx n0 X w w' := Kx.of_keep hk h.old hn fun j hj => ⟨h.n2 j hj, h.o2.cells j hj⟩
theorem Sv.kxB1 (h : Sv n0 X w v1 v2 l1 l2 B1 B2 x1 x2) (hn : n0 ≤ w.heap.size) (y : Value) : Kx n0 X w (w.setCell ⟨B1, 0, none⟩ y) :=
  Kx.of_keep (Keep.setCell _ _ _ [B1] (by simp)) h.old hn fun j hj => by rw [List.mem_singleton] at hj; subst hj; exact ⟨h.nB1, fun o ho => by rw [h.b1] at ho; obtain rfl := Option.some.inj ho; rfl⟩
theorem Sv.kxB2 (h : Sv n0 X w v1 v2 l1 l2 B1 B2 x1 x2) (hn : n0 ≤ w.heap.size) (y : Value) : Kx n0 X w (w.setCell ⟨B2, 0, none⟩ y) :=
  Kx.of_keep (Keep.setCell _ _ _ [B2] (by simp)) h.old hn fun j hj => by rw [List.mem_singleton] at hj; subst hj; exact ⟨h.nB2, fun o ho => by rw [h.b2] at ho; obtain rfl := Option.some.inj ho; rfl⟩
theorem Sv.kxN (h : Sv n0 X w v1 v2 l1 l2 B1 B2 x1 x2) (hn : n0 ≤ w.heap.size) (hb : Below w.heap.size w w') : Kx n0 X w w' := Kx.of_keep (Keep.of_below hb []) h.old hn (by simp)
/-- The law's own book-keeping leaves them. -/
theorem Sv.own {v : World} {row : Option Nat} (h : Sv n0 X w v1 v2 l1 l2 B1 B2 x1 x2) (hg : w.grownBy v row) (hr : ∀ r, row = some r → ∃ o : Obj, w.heap[r]? = some o ∧ o.isCells = false) : Sv n0 X v v1 v2 l1 l2 B1 B2 x1 x2 := by
  refine h.keep (Keep.of_gb hg) fun j hj => ?_
  have hj : row = some j := by simpa using hj
  obtain ⟨o, ho, hc⟩ := hr j hj
  refine ⟨fun hf => ?_, fun hf => ?_, fun hf => ?_, fun hf => ?_⟩
  · rw [h.o1.cells j hf o ho] at hc; cases hc
  · rw [h.o2.cells j hf o ho] at hc; cases hc
  · subst hf; rw [h.b1] at ho; obtain rfl := Option.some.inj ho; cases hc
  · subst hf; rw [h.b2] at ho; obtain rfl := Option.some.inj ho; cases hc
end
/-- append(v, ys...) of a block's numbers, as one operation. -/
theorem wp_append_blk {o : Oper} {a : Act} {K : Act → World → Prop} {Q : Exit → Act → World → Prop} {W : World} (s x : Operand) (t : TypeId)
    (ho : o.op = .call { callee := .builtin .append, args := #[s, x], argTypes := #[t, t] }) (ht : Try.prog.underlying t = some (.slice 3))
    (v : Value) (xs : List Int) (p : Nat) (y : Int) (hs : a.eval s = v) (hx : a.eval x = .slice (some ⟨p, 0, none⟩) 1 1) (HO : Own W 3 .i64 v xs)
    (hB : W.heap[p]? = some (.cells #[.int .i64 y] 3 (0, 0))) (hl : xs.length ≤ 1000000)
    (h : ∀ g cap w1, Own w1 3 .i64 (.slice (some ⟨g, 0, none⟩) (xs ++ [y]).length cap) (xs ++ [y]) → Keep W w1 (foot v) → (g ∈ foot v ∨ W.heap.size ≤ g) →
      K (a.put o.dst (.slice (some ⟨g, 0, none⟩) (xs ++ [y]).length cap)) w1) : o.wp Try.prog a W K Q := by
  obtain ⟨i0, hi, hzz⟩ := Option.map_eq_some_iff.1 info3
  simp only [Prod.mk.injEq] at hzz
  obtain ⟨hz0, hz1, hz2⟩ := hzz
  obtain ⟨v', w', hr, h2, h3, h4, h5⟩ := run_append_own_at (P := Try.prog) W 0 t o.type 3 i0 _ 1 8 ht hi hz0 hz1 hz2 rfl (by omega) v xs.length (xs.map (Value.int .i64)) HO ⟨p, 0, none⟩ 1 1 [.int .i64 y] rfl
    (fun j u hj => by
      match j, hj with
      | 0, hj => obtain rfl := Option.some.inj hj; exact cell_of_row _ _ 0 _ 3 (0, 0) hB)
    (fun u hu => by rw [List.mem_singleton] at hu; subst hu; rfl) (by simp only [maxLen]; omega) (by omega) (Nat.zero_le _)
  unfold Oper.wp execOp
  simp only [ho, resolve, invoke, builtin, Sem.run_bind, Sem.run_pure, Result.andThen_ok, List.map_toArray, List.map_cons, List.map_nil, hs, hx, hr]
  have hown' : Own w' 3 .i64 v' (xs ++ [y]) := by
    unfold Own
    rw [List.map_append, List.length_append]
    exact h2
  obtain ⟨g, cap, rfl⟩ := hown'.form (by simp)
  refine h g cap w' hown' (Keep.of_gb h3) ?_
  rcases h5 with hat | hat
  · left; unfold foot; rw [← hat]; simp [Value.ownBlock]
  · right
    simp [Value.ownBlock] at hat
    omega
end Go.Proofs.Ythoemgiadadfcaa
