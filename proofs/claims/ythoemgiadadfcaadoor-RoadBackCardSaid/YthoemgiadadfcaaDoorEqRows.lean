/- What '==' says of two arrays whose elements are single cells. -/
import Derived.WalkKit
import Derived.Laws.StructEq
set_option linter.unusedVariables false
set_option linter.unusedSimpArgs false
namespace Go.Proofs.YthoemgiadadfcaaDoor
open Go.RowKit
theorem run_equalIn_list {P : Program} {α : Type} [DecidableEq α] (f : α → Value) {d n : Nat} {t e : TypeId} (ht : P.underlying t = some (.array n e)) (l m : List α) (hl : l.length = n) (hm : m.length = n) (w : World)
    (hsz : (sizeOf e).run P w = .ok 1 w) (hagg : (isAgg e).run P w = .ok false w)
    (heq : ∀ a b, (Op.equalIn d e (f a) (f b)).run P w = .ok (decide (a = b)) w) :
    (Op.equalIn (d + 1) t (.agg (l.map f).toArray) (.agg (m.map f).toArray)).run P w = .ok (decide (l = m)) w := by
  have hpart : ∀ (l : List α) (i : Nat) (a : α), l[i]? = some a → (part e (l.map f).toArray i).run P w = .ok (f a) w := by
    intro l i a h
    unfold part
    simp [Sem.run_bind, hagg, h]
  rw [Op.equalIn]
  simp only [Sem.run_bind, run_underlying ht, Result.andThen_ok, hsz]
  simp only [Std.Legacy.Range.forIn_eq_forIn_range', Std.Legacy.Range.size, Nat.sub_zero, Nat.add_sub_cancel, Nat.div_one, Nat.mul_one]
  have loop : ∀ k j, j + k = n → Sem.run P (forIn (List.range' j k) ((none : Option Bool), ()) fun i (__s : Option Bool × Unit) => do
            let __do_lift ← part e (List.map f l).toArray i
            let __do_lift_1 ← part e (List.map f m).toArray i
            let __do_lift ← Op.equalIn d e __do_lift __do_lift_1
            if (!__do_lift) = true then pure (ForInStep.done (some false, ())) else pure (ForInStep.yield (none, ()))) w = .ok (if l.drop j = m.drop j then (none, ()) else (some false, ())) w := by
    intro k
    induction k with
    | zero =>
      intro j hj
      rw [List.drop_of_length_le (by omega), List.drop_of_length_le (by omega)]
      simp
    | succ k ih =>
      intro j hj
      have h1 : l[j]? = some (l[j]'(by omega)) := List.getElem?_eq_getElem (by omega)
      have h2 : m[j]? = some (m[j]'(by omega)) := List.getElem?_eq_getElem (by omega)
      rw [List.range'_succ, List.forIn_cons]
      simp only [Sem.run_bind, hpart l j _ h1, hpart m j _ h2, Result.andThen_ok, heq]
      rw [List.drop_eq_getElem_cons (show j < l.length by omega), List.drop_eq_getElem_cons (show j < m.length by omega)]
      by_cases he : l[j]'(by omega) = m[j]'(by omega)
      · simp only [he, decide_true, Bool.not_true, Bool.false_eq_true, if_false, Sem.run_pure, Result.andThen_ok, List.cons.injEq, true_and]
        exact ih (j + 1) (by omega)
      · simp only [he, decide_false, Bool.not_false, if_true, Sem.run_pure, Result.andThen_ok, List.cons.injEq, false_and, if_false]
  have h0 := loop n 0 (by omega)
  rw [h0]
  simp only [List.drop_zero, Result.andThen_ok]
  by_cases he : l = m
  · simp [he]
  · simp [he]
end Go.Proofs.YthoemgiadadfcaaDoor
