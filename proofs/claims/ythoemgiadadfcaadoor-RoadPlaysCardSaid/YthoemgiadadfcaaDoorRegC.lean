/- A region that draws its order: what is done has all done that it waits for; a block laid ahead of the first write. -/
import Derived.Test.YthoemgiadadfcaaDoorSt2
set_option linter.unusedVariables false
set_option linter.unusedSimpArgs false
namespace Go.Proofs.YthoemgiadadfcaaDoor
open Go.RowKit
/-- What is done has all done that it waits for. -/
def Cl (l : List Oper) (d : Nat → Bool) : Prop := ∀ k o, l[k]? = some o → d k = true → ∀ e ∈ o.after, Region.binds .any e = true → d e.on = true
theorem also_mono (d : Nat → Bool) (i j : Nat) (h : d j = true) : also d i j = true := by unfold also; split; rfl; exact h
theorem wp_region_invC {P : Program} {id : Nat} {Q : Exit → Act → World → Prop} {a : Act} {w : World} {l : List Oper} (hm : P.follows .mixedOrders = true) (hb : backB l.toArray = true) (I : (Nat → Bool) → Act → World → Prop)
    (h0 : I (fun _ => false) a w.drew)
    (hstep : ∀ i o d a w, l[i]? = some o → d i = false → (∀ e ∈ o.after, Region.binds .any e = true → d e.on = true) → Cl l d → I d a w → wpOp P l.toArray Q i (I (also d i)) a w)
    (hend : ∀ d a w, (∀ i, i < l.length → d i = true) → I d a w → Q .normal a w) : (Code.region id l.toArray true).wp P Q a w := by
  refine wp_region_inv hm hb (fun d a w => Cl l d ∧ I d a w) ⟨fun k o _ h => (by cases h), h0⟩ (fun i o d a w ho hd hdep h => ?_) (fun d a w hd h => hend d a w hd h.2)
  refine wpOp_mono (fun a' w' h' => ⟨?_, h'⟩) (hstep i o d a w ho hd hdep h.1 h.2)
  intro k ok hok hk e he hbi
  by_cases hki : k = i
  · subst hki
    rw [ho] at hok
    obtain rfl := Option.some.inj hok
    exact also_mono d _ _ (hdep e he hbi)
  · rw [also_ne d hki] at hk
    exact also_mono d _ _ (h.1 k ok hok hk e he hbi)
section
variable {w w' : World} {d : Nat → Bool} {vs : List (Nat × Value × Value)} {S0 S1 S2 : World → Prop} {i j : Nat} {pre : List Nat}
/-- A step before the first write, which turns what is known of the world, and tells a value. -/
theorem St2.midV {S0' S1' S2' : World → Prop} (h : St2 w d vs S0 S1 S2 i j pre) (k p : Nat) (v : Value) (hd : d k = false) (hkp : k ∈ pre) (hk : k ≠ i ∧ k ≠ j) (hc : ((vs.map (·.1)).eraseIdx p).contains k = false) (hs : S0' w') : St2 w' (also d k) (vs.set p (k, v, v)) S0' S1' S2' i j pre := by
  have hi : d i = false := by
    cases hi : d i with
    | false => rfl
    | true => rw [h.m1 hi k hkp] at hd; cases hd
  have hj : d j = false := by
    cases hj : d j with
    | false => rfl
    | true => rw [h.m2 hj] at hi; cases hi
  refine ⟨vals_set vs p k v h.vals hc, ?_, ?_, ?_⟩
  · rw [also_ne d hk.2.symm, hj, also_ne d hk.1.symm, hi]; exact hs
  · rw [also_ne d hk.1.symm, hi]; intro h; cases h
  · rw [also_ne d hk.2.symm, hj]; intro h; cases h
end
/-- Is the value a slice? -/
def tagS : Value → Value
  | .slice _ _ _ => .bool true
  | _ => .bool false
end Go.Proofs.YthoemgiadadfcaaDoor
namespace Go.Proofs.YthoemgiadadfcaaDoor
open Go.RowKit
section
variable {w w' : World} {d : Nat → Bool} {vs : List (Nat × Value × Value)} {S0 S1 S2 : World → Prop} {i j : Nat} {pre : List Nat}
/-- A step before the first write, which turns what is known of the world. -/
theorem St2.midW {S0' S1' S2' : World → Prop} (h : St2 w d vs S0 S1 S2 i j pre) (k : Nat) (hd : d k = false) (hkp : k ∈ pre) (hk : k ≠ i ∧ k ≠ j) (hv : (vs.map (·.1)).contains k = false) (hs : S0' w') : St2 w' (also d k) vs S0' S1' S2' i j pre := by
  have hi : d i = false := by
    cases hi : d i with
    | false => rfl
    | true => rw [h.m1 hi k hkp] at hd; cases hd
  exact h.mid hi k hk hv hs
/-- The second step, whose value names what is known behind it. -/
theorem St2.sndV {S0' S1' S2' : World → Prop} (h : St2 w d vs S0 S1 S2 i j pre) (hij : i ≠ j) (hi : d i = true) (hv : (vs.map (·.1)).contains j = false) (hs : S2' w') : St2 w' (also d j) vs S0' S1' S2' i j pre := by
  refine ⟨?_, ?_, ?_, ?_⟩
  · intro e he hde
    rw [also_ne d (not_at hv he)] at hde
    exact h.vals e he hde
  · rw [also_self]; exact hs
  · rw [also_ne d hij]; intro hi e he; unfold also; split
    · rfl
    · exact h.m1 hi e he
  · intro _; rw [also_ne d hij]; exact hi
end
end Go.Proofs.YthoemgiadadfcaaDoor
