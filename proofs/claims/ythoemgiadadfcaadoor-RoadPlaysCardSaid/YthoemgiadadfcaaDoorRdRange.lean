/- A range over a function that keeps what it has still to give in a variable of its own. -/
import Derived.RangeFuncFrom
import Derived.RangeFuncLeaves
import Derived.Deep.QuietTactic
import Derived.Test.YthoemgiadadfcaaDoorProg
set_option linter.unusedVariables false
set_option linter.unusedSimpArgs false
namespace Go.Proofs.YthoemgiadadfcaaDoor
open Go.RowKit
/-- How a round may end. -/
def endP {α : Type} (Bs : Nat) (I Ix : List α → World → Prop) (xs : List α) (W : World) : Exit → Act → World → Prop
  | .normal, _, W' => KeepsOthers W W' ∧ W'.heap[Bs]? = W.heap[Bs]? ∧ I xs W'
  | .ret, _, W' => KeepsOthers W W' ∧ Ix xs W'
  | _, _, _ => False
/-- What a step of the loop's own, or of its iterator's, may turn. -/
def Turns {α : Type} (Bs B : Nat) (I : List α → World → Prop) : Prop := OwnFrom B I ∧ ∀ s A v, I s A → I s (A.setCell ⟨Bs, 0, none⟩ v)
/-- What the iterator promises. -/
def Gives {α : Type} (n : Nat) (P : Program) (gf : Nat) (lb : Array Value) (enc : α → Value) (Bs : Nat) (L : List α) (w : World) : Prop :=
  ∀ (l : Nat) (J Jx : List α → World → Prop) (W : World), Below w.heap.size w W → (∀ s A v, J s A → J s (A.setCell ⟨Bs, 0, none⟩ v)) → (∀ s A m, J s A → J s (A.drewN m)) →
    (∀ pre x W1, J pre W1 → pre ++ [x] <+: L → YieldAt Fence.wide (n - 1) P l #[enc x] W1 fun e W' => (e = .returned (.bool true) ∧ J (pre ++ [x]) W' ∧ W'.heap[Bs]? = W1.heap[Bs]?) ∨ (e = .returned (.bool false) ∧ Jx (pre ++ [x]) W')) →
    J [] W → CallsIn Fence.wide n P gf (#[.func (.yield l) #[] #[]] ++ lb) W fun e W' => (∃ v, e = .returned v) ∧ (J L W' ∨ ∃ pre, pre <+: L ∧ Jx pre W')
section
variable {P : Program} {α : Type}
theorem heap_setCell_ne (W : World) (b : Nat) (v : Value) (j : Nat) (h : j ≠ b) : (W.setCell ⟨b, 0, none⟩ v).heap[j]? = W.heap[j]? := Below.heap_setCell _ _ _ _ h
theorem wpIn_range_own {g : Operand} {ps : Array Tmp} {assign body : Code} {Q : Exit → Act → World → Prop} {a : Act} {w : World} {n : Nat} (hn : 1 ≤ n)
    {gf : Nat} {lb : Array Value} (hg : a.eval g = .func (.func gf) #[] lb) (eg : ∀ args w, (callFunc gf args).run P w = .ok (.enter gf args) w) (enc : α → Value) (hps : ps.size = 1) (Bs : Nat) (hBs : Bs < w.heap.size) (L : List α)
    (hseq : Gives (n - 1) P gf lb enc Bs L w) (I Ix : List α → World → Prop) (hI : Turns Bs w.heap.size I) (hIx : Turns Bs w.heap.size Ix) (h0 : I [] w) (a₁ : α → Act)
    (hassign : ∀ (l : Nat) (x : α) (W : World) (K : Act → World → Prop), K (a₁ x) W → assign.wpIn (Fence.wide.inRound l) (n - 1 - 1) P (Exit.then K (fun _ _ _ => False)) { tmps := (ps.zip #[enc x]).foldl (fun t (p, v) => t.setIfInBounds p v) a.tmps, defers := [] } W)
    (hbody : ∀ (l : Nat) (pre : List α) (x : α) (W : World), I pre W → pre ++ [x] <+: L → body.wpIn (Fence.wide.inRound l) (n - 1 - 1) P (endP Bs I Ix (pre ++ [x]) W) (a₁ x) W)
    (hdone : ∀ (D : Nat) (W : World), w.heap.size ≤ D → I L W → W.heap[D]? = some (.deferred (some [])) → Q .normal { a with defers := { target := .collected D, args := #[] } :: a.defers } W)
    (hstop : ∀ (D : Nat) (pre : List α) (W : World), w.heap.size ≤ D → pre <+: L → Ix pre W → W.heap[D]? = some (.deferred (some [])) → Code.ret.wpIn Fence.wide n P Q { a with defers := { target := .collected D, args := #[] } :: a.defers } W) :
    (Code.rangeFunc g ps assign body).wpIn Fence.wide n P Q a w := by
  refine wpIn_rangeFunc fun fn hfn => ?_
  -- the two blocks that the loop lays: D holds what the rounds defer, D + 1 the loop's record
  obtain ⟨D, hD⟩ : ∃ D, D = w.heap.size := ⟨_, rfl⟩
  obtain ⟨rc, hrc⟩ : ∃ rc : LoopState → Option Code → Loop, rc = fun st pe => { state := st, pending := pe, fn := fn, tmps := a.tmps, params := ps, assign := assign, body := body, defers := D } := ⟨_, rfl⟩
  obtain ⟨Wa, hWa⟩ : ∃ Wa, Wa = w.alloc (.deferred (some [])) := ⟨_, rfl⟩
  obtain ⟨Wb, hWb⟩ : ∃ Wb, Wb = Wa.alloc (.loop (rc .ready none)) := ⟨_, rfl⟩
  have sa : Wa.heap.size = D + 1 := by rw [hWa, hD]; simp
  have da : Wa.heap[D]? = some (.deferred (some [])) := by rw [hWa, hD]; exact World.alloc_heap_new w _
  have lb1 : Wb.heap[D + 1]? = some (.loop (rc .ready none)) := by rw [hWb, ← sa]; exact World.alloc_heap_new Wa _
  have db : Wb.heap[D]? = some (.deferred (some [])) := by rw [hWb]; exact (Below.heap_alloc Wa _ D (by omega)).trans da
  have bb : Below w.heap.size w Wb := by
    rw [hWb, hWa]
    exact ((Below.refl _ w).alloc (Nat.le_refl _) _).alloc (by simp) _
  have hIb : I [] Wb := by
    rw [hWb, hWa]
    exact hI.1.alloc _ (hI.1.alloc _ h0)
  have hBD : Bs ≠ D ∧ Bs ≠ D + 1 := by omega
  -- the record turned
  have turnI : ∀ {s A} {st : LoopState} {pe : Option Code} (o : Obj) (J : List α → World → Prop), Turns Bs w.heap.size J → J s A → A.heap[D + 1]? = some (.loop (rc st pe)) → J s (A.putObj (D + 1) o) := fun o J hJ h hl =>
    hJ.1.putObj _ h (by omega) hl rfl
  refine ⟨D + 1, [{ target := .collected D, args := #[] }], Wb, { target := .fn (.func gf) lb, args := #[.func (.yield (D + 1)) #[] #[]] }, Wb, gf, #[.func (.yield (D + 1)) #[] #[]] ++ lb, Wb, ?_, ?_, fun _ _ => trivial, ?_, (fun h => by cases h), ?_⟩
  · rw [show Fence.wide.round = none from rfl, run_enterLoop_outer, hWb, hWa, hrc, hD]
  · simp only [resolve, hg]
    simp [go_sem]
  · simp [invoke, go_sem, eg]
  refine (hseq (D + 1) (fun pre W => I pre W ∧ W.heap[D + 1]? = some (.loop (rc .ready none)) ∧ W.heap[D]? = some (.deferred (some [])))
    (fun pre W => Ix pre W ∧ W.heap[D + 1]? = some (.loop (rc .done (some .ret))) ∧ W.heap[D]? = some (.deferred (some []))) Wb bb ?_ ?_ ?_ ⟨hIb, lb1, db⟩).mono ?_
  · rintro s A v ⟨hi, hl, hk⟩
    refine ⟨hI.2 _ _ _ hi, ?_, ?_⟩
    · rw [heap_setCell_ne _ _ _ _ hBD.2.symm]; exact hl
    · rw [heap_setCell_ne _ _ _ _ hBD.1.symm]; exact hk
  · rintro s A m ⟨hi, hl, hk⟩
    exact ⟨hI.1 _ _ _ none hi ⟨rfl, rfl, rfl, Nat.le_refl _, fun _ _ _ => rfl⟩ (fun r e => by cases e), hl, hk⟩
  · -- a round
    rintro pre x W ⟨hi, hl, hk⟩ hpx
    have hlt : D + 1 < W.heap.size := (Array.getElem?_eq_some_iff.1 hl).1
    have hy := run_yield (P := P) (args := #[enc x]) hl (by rw [hrc]; exact hps.symm)
    rw [hrc] at hy
    refine ⟨fn, _, assign, body, hy, roundIn_of_wpIn trivial (hassign _ x W _ ⟨_, run_beginRound hl (by rw [hrc]), ?_⟩)⟩
    have h2l : (W.putObj (D + 1) (.loop { rc .ready none with state := .busy })).heap[D + 1]? = some (.loop (rc .busy none)) := by rw [hrc]; exact World.putObj_heap_same hlt
    have h2k : (W.putObj (D + 1) (.loop { rc .ready none with state := .busy })).heap[D]? = some (.deferred (some [])) := (World.putObj_heap_other (by omega)).trans hk
    have h2b : (W.putObj (D + 1) (.loop { rc .ready none with state := .busy })).heap[Bs]? = W.heap[Bs]? := World.putObj_heap_other hBD.2
    have h2i := turnI (.loop { rc .ready none with state := .busy }) I hI hi hl
    generalize (W.putObj (D + 1) (.loop { rc .ready none with state := .busy })) = W2 at *
    refine wpIn_mono (hbody _ pre x W2 h2i hpx) ?_
    rintro e a3 W3 hp
    cases e with
    | normal =>
      obtain ⟨hk3, hb3, hi3⟩ := hp
      have hl3 := hk3.same _ _ h2l rfl
      have hlt3 := (Array.getElem?_eq_some_iff.1 hl3).1
      refine ⟨_, _, run_endRound (P := P) none hl3, .inl ⟨rfl, ⟨turnI _ I hI hi3 hl3, ?_, (World.putObj_heap_other (by omega)).trans (hk3.same _ _ h2k rfl)⟩, (World.putObj_heap_other hBD.2).trans (hb3.trans h2b)⟩⟩
      rw [World.putObj_heap_same hlt3, hrc]; rfl
    | ret =>
      obtain ⟨hk3, hi3⟩ := hp
      have hl3 := hk3.same _ _ h2l rfl
      have hlt3 := (Array.getElem?_eq_some_iff.1 hl3).1
      refine ⟨_, _, run_endRound (P := P) (some .ret) hl3, .inr ⟨rfl, turnI _ Ix hIx hi3 hl3, ?_, (World.putObj_heap_other (by omega)).trans (hk3.same _ _ h2k rfl)⟩⟩
      rw [World.putObj_heap_same hlt3, hrc]; rfl
    | exit id => exact hp.elim
    | goto t => exact hp.elim
    | panic ch => exact hp.elim
    | outgrown => exact hp.elim
  · rintro e W2 ⟨⟨v, rfl⟩, (⟨hi, hl, hk⟩ | ⟨pre, hpre, hi, hl, hk⟩)⟩
    · have he := run_endLoop (P := P) hl (by rw [hrc]; simp)
      rw [hrc] at he
      exact ⟨none, _, he, hdone D _ (by omega) (turnI _ I hI hi hl) ((World.putObj_heap_other (by omega)).trans hk)⟩
    · have he := run_endLoop (P := P) hl (by rw [hrc]; simp)
      rw [hrc] at he
      exact ⟨some .ret, _, he, hstop D pre _ (by omega) hpre (turnI _ Ix hIx hi hl) ((World.putObj_heap_other (by omega)).trans hk)⟩
end
end Go.Proofs.YthoemgiadadfcaaDoor
