/- A region that draws its order, by what holds when some of its operations have run. -/
import Derived.Orders
import Derived.Tactics
set_option linter.unusedVariables false
set_option linter.unusedSimpArgs false
namespace Go.Proofs.YthoemgiadadfcaaDoor
/-- The operation that d lacks is done. -/
def also (d : Nat → Bool) (i : Nat) : Nat → Bool := fun j => if j = i then true else d j
theorem also_self (d : Nat → Bool) (i : Nat) : also d i i = true := by simp [also]
theorem also_ne (d : Nat → Bool) {i j : Nat} (h : j ≠ i) : also d i j = d j := by simp [also, h]
section
variable {P : Program} {ops : Array Oper}
/-- Each operation waits only for operations before it. -/
def backB (ops : Array Oper) : Bool := (List.range ops.size).all fun i => ((ops[i]?).map fun o => o.after.all fun e => !Region.binds .any e || decide (e.on < i)).getD true
theorem backB_spec (h : backB ops = true) {i : Nat} {o : Oper} (hi : ops[i]? = some o) : ∀ e ∈ o.after, Region.binds .any e = true → e.on < i := by
  intro e he hb
  have hlt : i < ops.size := (Array.getElem?_eq_some_iff.1 hi).1
  have h1 := List.all_eq_true.1 h i (List.mem_range.2 hlt)
  rw [hi] at h1
  simp only [Option.map_some, Option.getD_some] at h1
  have h2 := (Array.all_eq_true_iff_forall_mem.1 h1) e he
  simpa [hb] using h2
theorem count_set : ∀ (l : List Bool) (i f : Nat), l[i]? = some false → l.countP (fun b => !b) = f + 1 → (l.set i true).countP (fun b => !b) = f
  | [], _, _, h, _ => by simp at h
  | b :: l, 0, f, h, hc => by
    simp at h; subst h
    simpa using hc
  | b :: l, i + 1, f, h, hc => by
    have hl : l[i]? = some false := by simpa using h
    rw [List.set_cons_succ, List.countP_cons]
    rw [List.countP_cons] at hc
    cases b with
    | true =>
      simp at hc ⊢
      exact count_set l i f hl (by simpa using hc)
    | false =>
      simp at hc ⊢
      cases f with
      | zero =>
        have h0 : l.countP (fun b => !b) = 0 := by simpa using hc
        rw [List.countP_eq_zero] at h0
        exact absurd (h0 false (List.mem_of_getElem? hl)) (by simp)
      | succ f =>
        have := count_set l i f hl (by simpa using hc)
        simpa using this
theorem wpAny_inv {Q : Exit → Act → World → Prop} (hb : backB ops = true) (I : (Nat → Bool) → Act → World → Prop)
    (hstep : ∀ i o d a w, ops[i]? = some o → d i = false → (∀ e ∈ o.after, Region.binds .any e = true → d e.on = true) → I d a w → wpOp P ops Q i (I (fun j => if j = i then true else d j)) a w)
    (hend : ∀ d a w, (∀ i, i < ops.size → d i = true) → I d a w → Q .normal a w) (f : Nat) :
    ∀ (done : Array Bool) (a : Act) (w : World), done.size = ops.size → done.toList.countP (fun b => !b) = f → I (fun j => done.getD j false) a w → wpAny P .any ops Q f done a w := by
  induction f with
  | zero =>
    intro done a w hs hc hI
    rw [List.countP_eq_zero] at hc
    have hall : ∀ i, i < ops.size → done[i]? = some true := fun i hi => by
      have hlt : i < done.size := by omega
      rw [Array.getElem?_eq_getElem hlt]
      have := hc done[i] (by simp)
      cases hd : done[i] <;> simp_all
    refine ⟨?_, hend (fun j => done.getD j false) a w (fun i hi => ?_) hI⟩
    · refine List.eq_nil_iff_forall_not_mem.2 fun i hi => ?_
      obtain ⟨h1, o, ho, _⟩ := mem_ready.1 hi
      have := hall i (Array.getElem?_eq_some_iff.1 ho).1
      simp [this] at h1
    · show done.getD i false = true
      simp [hall i hi]
  | succ f ih =>
    intro done a w hs hc hI
    refine ⟨fun h0 => ?_, fun i hi => ?_⟩
    · exfalso
      -- the first that has not run is ready
      have hex : ∃ i : Nat, done[i]? = some false := by
        have : 0 < done.toList.countP (fun b => !b) := by omega
        obtain ⟨b, hb1, hb2⟩ : ∃ b, b ∈ done.toList ∧ (!b) = true := by simpa using List.countP_pos_iff.1 this
        obtain ⟨i, hi⟩ := List.getElem?_of_mem hb1
        exact ⟨i, by rw [Array.getElem?_toList] at hi; cases b with | true => simp at hb2 | false => exact hi⟩
      have key : ∀ n i : Nat, i ≤ n → done[i]? = some false → False := by
        intro n
        induction n with
        | zero =>
          intro i hi hd
          obtain rfl : i = 0 := by omega
          have hlt : 0 < ops.size := by rw [← hs]; exact (Array.getElem?_eq_some_iff.1 hd).1
          have : 0 ∈ Region.ready .any ops done := mem_ready.2 ⟨by simp [hd], _, Array.getElem?_eq_getElem hlt, fun e he hbi => by
            have := backB_spec hb (Array.getElem?_eq_getElem hlt) e he hbi; omega⟩
          rw [h0] at this; cases this
        | succ n ihn =>
          intro i hi hd
          have hlt : i < ops.size := by rw [← hs]; exact (Array.getElem?_eq_some_iff.1 hd).1
          have : i ∈ Region.ready .any ops done := mem_ready.2 ⟨by simp [hd], _, Array.getElem?_eq_getElem hlt, fun e he hbi => by
            have h1 := backB_spec hb (Array.getElem?_eq_getElem hlt) e he hbi
            have h2 : e.on < done.size := by omega
            cases hv : done[e.on] with
            | true => simp [Array.getElem?_eq_getElem h2, hv]
            | false => exact (ihn e.on (by omega) (by rw [Array.getElem?_eq_getElem h2, hv])).elim⟩
          rw [h0] at this; cases this
      obtain ⟨i, hi⟩ := hex
      exact key i i (Nat.le_refl _) hi
    · obtain ⟨h1, o, ho, h2⟩ := mem_ready.1 hi
      have hlt : i < ops.size := (Array.getElem?_eq_some_iff.1 ho).1
      have hd : done[i]? = some false := by
        have : i < done.size := by omega
        rw [Array.getElem?_eq_getElem this]
        simp [Array.getElem?_eq_getElem this] at h1
        rw [h1]
      refine wpOp_mono (fun a' w' hI' => ih (done.setIfInBounds i true) a' w' (by simp [hs]) ?_ ?_) (hstep i o (fun j => done.getD j false) a w ho (by simp [hd]) h2 hI)
      · rw [Array.toList_setIfInBounds]
        exact count_set _ i f (by simpa using hd) hc
      · have e : (fun j => (done.setIfInBounds i true).getD j false) = (fun j => if j = i then true else done.getD j false) := by
          funext j
          by_cases hji : j = i
          · subst hji; simp [Array.getElem?_setIfInBounds, show j < done.size by omega]
          · simp [Array.getElem?_setIfInBounds, hji, Ne.symm hji]
        rw [e]; exact hI'
theorem wp_region_inv {id : Nat} {Q : Exit → Act → World → Prop} {a : Act} {w : World} {l : List Oper} (hm : P.follows .mixedOrders = true) (hb : backB l.toArray = true) (I : (Nat → Bool) → Act → World → Prop)
    (h0 : I (fun _ => false) a w.drew)
    (hstep : ∀ i o d a w, l[i]? = some o → d i = false → (∀ e ∈ o.after, Region.binds .any e = true → d e.on = true) → I d a w → wpOp P l.toArray Q i (I (also d i)) a w)
    (hend : ∀ d a w, (∀ i, i < l.length → d i = true) → I d a w → Q .normal a w) : (Code.region id l.toArray true).wp P Q a w := by
  refine wp_region_any hm (wpAny_inv hb I (fun i o d a w h => hstep i o d a w (by simpa using h)) (fun d a w h => hend d a w (by simpa using h)) _ _ _ _ (by simp) (by rw [Array.toList_replicate, List.countP_replicate]; simp) ?_)
  have e : (fun j => (Array.replicate l.toArray.size false).getD j false) = fun _ => false := by
    funext j
    simp [Array.getElem?_replicate]
    split <;> rfl
  rw [e]; exact h0
end
end Go.Proofs.YthoemgiadadfcaaDoor
