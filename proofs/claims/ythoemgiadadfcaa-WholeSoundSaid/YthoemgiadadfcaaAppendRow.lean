/- append(v, ys...): a row behind a row. -/
import Derived.Test.YthoemgiadadfcaaFoot
namespace Go.Proofs.Ythoemgiadadfcaa
open Go.RowKit Go.Sort
section
variable {P : Program} {ops : Array Oper} {rest : List Oper} {o : Oper} {a : Act} {Q : Exit → Act → World → Prop}
/-- Behind append: what is there, and where. -/
theorem run_append_row {W : World} (ty : TypeId) (t e : TypeId) (k : IntKind) (bytes : Nat)
    (ht : P.underlying t = some (.slice e)) (hinfo : (P.info? e).map (fun i => (i.zero, i.size, i.bytes)) = some (some (.int k 0), 1, bytes)) (hb0 : 0 < bytes)
    (v vy : Value) (xs ys : List Int) (HO : Own W e k v xs) (HY : Own W e k vy ys) (hl : (xs.length + ys.length) * bytes ≤ 140737488355328) :
    ∃ v1 w1, (Builtin.append_ #[t, t] ty #[v, vy]).run P W = .ok v1 w1 ∧ Own w1 e k v1 (xs ++ ys) ∧ Keep W w1 (foot v) ∧ ∀ j ∈ foot v1, j ∈ foot v ∨ W.heap.size ≤ j := by
  obtain ⟨i0, hi, hzz⟩ := Option.map_eq_some_iff.1 hinfo
  simp only [Prod.mk.injEq] at hzz
  obtain ⟨hz0, hz1, hz2⟩ := hzz
  have hlen : xs.length + ys.length ≤ 140737488355328 := Nat.le_trans (Nat.le_mul_of_pos_right _ hb0) hl
  rcases HY.2 with ⟨rfl, hn⟩ | ⟨g', cap', cur', rfl, _⟩
  · obtain rfl : ys = [] := List.eq_nil_of_length_eq_zero hn
    refine ⟨v, W, ?_, by rw [List.append_nil]; exact HO, Keep.refl _ _, fun j hj => .inl hj⟩
    rcases HO.2 with ⟨rfl, hn⟩ | ⟨g, cap, cur, rfl, _, _, hnc, _⟩
    · simp [Builtin.append_, run_underlying ht, sizeOf, typeInfo, hi, Builtin.lenOf, Builtin.firstCells]
    · simp [Builtin.append_, run_underlying ht, sizeOf, typeInfo, hi, Builtin.lenOf, Builtin.firstCells, hnc, storeCells]
  · obtain ⟨v1, w1, hr, h2, h3, _, h5⟩ := run_append_own_at (P := P) W 0 t ty e i0 (.int k 0) 1 bytes ht hi hz0 hz1 hz2 rfl (by omega) v xs.length (xs.map (Value.int k)) HO ⟨g', 0, none⟩ ys.length cap' (ys.map (Value.int k)) (by simp)
      (fun j u hu => World.ownsRow.cells HY (g := g') rfl j u hu)
      (by intro u hu; simp only [List.mem_map] at hu; obtain ⟨q, _, rfl⟩ := hu; rfl) (by simp only [maxLen]; omega) hl (Nat.zero_le _)
    refine ⟨v1, w1, hr, by unfold Own; simpa using h2, Keep.of_gb h3, ?_⟩
    intro j hj
    rcases h5 with h | h
    · left; unfold foot at hj ⊢; rwa [← h]
    · right; unfold foot at hj; rw [h] at hj; simp at hj; omega
theorem append_row {W : World} (hgd : o.guard = none) (s x : Operand) (t e : TypeId) (k : IntKind) (bytes : Nat)
    (ho : o.op = .call { callee := .builtin .append, args := #[s, x], argTypes := #[t, t] })
    (ht : P.underlying t = some (.slice e)) (hinfo : (P.info? e).map (fun i => (i.zero, i.size, i.bytes)) = some (some (.int k 0), 1, bytes)) (hb0 : 0 < bytes)
    (v vy : Value) (xs ys : List Int) (hs : a.eval s = v) (hx : a.eval x = vy) (HO : Own W e k v xs) (HY : Own W e k vy ys) (hl : (xs.length + ys.length) * bytes ≤ 140737488355328)
    (h : ∀ v1 w1, Own w1 e k v1 (xs ++ ys) → Keep W w1 (foot v) → (∀ j ∈ foot v1, j ∈ foot v ∨ W.heap.size ≤ j) → wpList P ops Q rest (a.put o.dst v1) w1) :
    wpList P ops Q (o :: rest) a W := by
  obtain ⟨v1, w1, hr, h1, h2, h3⟩ := run_append_row (P := P) (W := W) o.type t e k bytes ht hinfo hb0 v vy xs ys HO HY hl
  refine wpList_plain hgd fun K hK => ?_
  unfold Oper.wp execOp
  simp only [ho, resolve, invoke, builtin, Sem.run_bind, Sem.run_pure, Result.andThen_ok, List.map_toArray, List.map_cons, List.map_nil, hs, hx, hr]
  exact hK _ _ (h v1 w1 h1 h2 h3)
end
/-- The same as one step of a region that draws its order. -/
theorem step_append_row {P : Program} {ops : Array Oper} {o : Oper} {a : Act} {W : World} {K : Act → World → Prop} {Q : Exit → Act → World → Prop} {E : Prop}
    (hgd : o.guard = none) (s x : Operand) (t e : TypeId) (k : IntKind) (bytes : Nat)
    (ho : o.op = .call { callee := .builtin .append, args := #[s, x], argTypes := #[t, t] })
    (ht : P.underlying t = some (.slice e)) (hinfo : (P.info? e).map (fun i => (i.zero, i.size, i.bytes)) = some (some (.int k 0), 1, bytes)) (hb0 : 0 < bytes)
    (v vy : Value) (xs ys : List Int) (hs : a.eval s = v) (hx : a.eval x = vy) (HO : Own W e k v xs) (HY : Own W e k vy ys) (hl : (xs.length + ys.length) * bytes ≤ 140737488355328)
    (h : ∀ v1 w1, Own w1 e k v1 (xs ++ ys) → Keep W w1 (foot v) → (∀ j ∈ foot v1, j ∈ foot v ∨ W.heap.size ≤ j) → K (a.put o.dst v1) w1) :
    if Region.wanted o (yielded ops a.tmps) = true then Oper.wp P o a W K Q else E := by
  have hw : Region.wanted o (yielded ops a.tmps) = true := by simp [Region.wanted, hgd]
  rw [if_pos hw]
  obtain ⟨v1, w1, hr, h1, h2, h3⟩ := run_append_row (P := P) (W := W) o.type t e k bytes ht hinfo hb0 v vy xs ys HO HY hl
  unfold Oper.wp execOp
  simp only [ho, resolve, invoke, builtin, Sem.run_bind, Sem.run_pure, Result.andThen_ok, List.map_toArray, List.map_cons, List.map_nil, hs, hx, hr]
  exact h v1 w1 h1 h2 h3
end Go.Proofs.Ythoemgiadadfcaa
