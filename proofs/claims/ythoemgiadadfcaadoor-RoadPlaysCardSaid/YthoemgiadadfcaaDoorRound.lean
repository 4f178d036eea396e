/- A region within a round of a range over a function: walked as anywhere. -/
import Derived.Test.YthoemgiadadfcaaDoorRegionInv
import Derived.OrdersIn
import Derived.RangeFuncCalls
import Derived.OwnWalkIn
set_option linter.unusedVariables false
set_option linter.unusedSimpArgs false
namespace Go.Proofs.YthoemgiadadfcaaDoor
section
variable {P : Program} {ops : Array Oper} {Q : Exit → Act → World → Prop}
theorem rowsIn_wide {n : Nat} {row : String} {args : Array Value} {w : World} {R : Value → World → Prop} (l : Nat) (h : Rows P row args w R) : RowsIn (Fence.wide.inRound l) n P row args w R :=
  fun c cs _ => let ⟨v, w', r, s⟩ := h c cs; ⟨v, w', r, stepsIn_wide.2 s⟩
theorem wpOp_round {l n i : Nat} {K : Act → World → Prop} {a : Act} {w : World} (hd : ∀ o ∈ ops, ∀ c, o.op ≠ .defer c) (hq : ¬ LetsOut Q) (h : wpOp P ops Q i K a w) : wpOpIn (Fence.wide.inRound l) n P ops Q i K a w := by
  unfold wpOp at h
  unfold wpOpIn
  cases ho : ops[i]? with
  | none => simpa [ho] using h
  | some o =>
    simp only [ho] at h ⊢
    by_cases hw : Region.wanted o (yielded ops a.tmps) = true
    · simp only [hw, if_true] at h ⊢
      rcases h with h | h
      · refine ⟨fun _ _ => trivial, ?_⟩
        have hne := hd o (Array.mem_of_getElem? ho)
        rw [Oper.semAt_plain _ _ _ hne]
        unfold Oper.wp at h
        generalize (execOp a.eval o).run P w = r at *
        cases r with
        | ok x w' =>
          cases x <;> simp only [Oper.upon, Oper.uponIn] at h ⊢
          case enter f args => exact ⟨by simp [Fence.wide], CallsIn.inRound l (callsIn_wide.2 h)⟩
          case row row args => exact ⟨by simp [Fence.wide], rowsIn_wide l h⟩
          all_goals first | exact h | exact h.elim
        | halt x w' => cases x <;> simp only [Oper.upon, Oper.uponIn] at h ⊢ <;> first | exact h | exact h.elim
      · exact absurd h.2 hq
    · simp only [hw] at h ⊢
      exact ⟨fun _ _ => trivial, by simpa using h⟩
theorem wpAny_round {l n : Nat} {md : Region.Mode} (hd : ∀ o ∈ ops, ∀ c, o.op ≠ .defer c) (hq : ¬ LetsOut Q) : ∀ (f : Nat) (done : Array Bool) (a : Act) (w : World), wpAny P md ops Q f done a w → wpAnyIn (Fence.wide.inRound l) n P md ops Q f done a w
  | 0, _, _, _, h => h
  | f + 1, _, _, _, h => ⟨h.1, fun i hi => wpOpIn_mono (fun a w h => wpAny_round hd hq f _ a w h) (wpOp_round hd hq (h.2 i hi))⟩
/-- wp_region_inv, within a round. -/
theorem wpIn_region_inv {id rl n : Nat} {a : Act} {w : World} {l : List Oper} (hm : P.follows .mixedOrders = true) (hb : backB l.toArray = true) (hd : ∀ o ∈ l, ∀ c, o.op ≠ .defer c) (hq : ¬ LetsOut Q) (I : (Nat → Bool) → Act → World → Prop)
    (h0 : I (fun _ => false) a w.drew)
    (hstep : ∀ i o d a w, l[i]? = some o → d i = false → (∀ e ∈ o.after, Region.binds .any e = true → d e.on = true) → I d a w → wpOp P l.toArray Q i (I (also d i)) a w)
    (hend : ∀ d a w, (∀ i, i < l.length → d i = true) → I d a w → Q .normal a w) : (Code.region id l.toArray true).wpIn (Fence.wide.inRound rl) n P Q a w := by
  refine wpIn_region_any hm (wpAny_round (by simpa using hd) hq _ _ _ _ ?_)
  refine wpAny_inv hb I (fun i o d a w h => hstep i o d a w (by simpa using h)) (fun d a w h => hend d a w (by simpa using h)) _ _ _ _ (by simp) (by rw [Array.toList_replicate, List.countP_replicate]; simp) ?_
  have e : (fun j => (Array.replicate l.toArray.size false).getD j false) = fun _ => false := by
    funext j
    simp [Array.getElem?_replicate]
    split <;> rfl
  rw [e]; exact h0
end
end Go.Proofs.YthoemgiadadfcaaDoor
