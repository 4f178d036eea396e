/- A whole row loaded in a region that draws its order; what a turned word is; the law BchTurns: its walk. -/
import Derived.Test.YthponlnklmhbeaaBchFar
import Derived.Test.YthponlnklmhbeaaBchTells
import Derived.Lib.QuietBelow
set_option linter.unusedVariables false
set_option linter.unusedSimpArgs false
namespace Go.Proofs.Ythponlnklmhbeaa
open Go.RowKit Go.Sort F7
theorem quiet_load_row {P : Program} {o : Oper} {a : Act} {w0 : World} {K : Act → Prop} (ty : TypeId) (x : Operand) (ho : o.op = .load ty x)
    (g : Nat) (hx : a.eval x = .pointer (some ⟨g, 0, none⟩)) (t : TypeId) (cs : Array Value) (fr : Nat × Nat) (d : TypeDesc) (hg : w0.heap[g]? = some (.cells cs t fr))
    (hu : P.underlying ty = some d) (hd : (match d with | .struct _ | .array _ _ => true | _ => false) = true) (hi : (P.info? ty).map (·.size) = some cs.size)
    (h : K (a.put o.dst (.agg cs))) : o.quiet P a (fun w' => ∃ p : Regrown, w' = grow (redrawn w0 p.d) p.os) K := by
  refine ⟨.agg cs, fun w hw => ?_, h⟩
  obtain ⟨p, rfl⟩ := hw
  have hg' : (grow (redrawn w0 p.d) p.os).heap[g]? = some (.cells cs t fr) := ((below_regrown w0 p.d p.os).block g (Array.getElem?_eq_some_iff.1 hg).1).trans hg
  unfold Oper.quietAt execOp
  simp only [ho, hx, Instr.loadAt, Instr.sureAddr, Sem.run_bind, Sem.run_pure, Result.andThen_ok, run_loadVar_row _ g t ty cs fr d hg' hu hd hi]
  exact ⟨rfl, rfl⟩
theorem cw_self (V : Nat → Bool) (hV : Cw V) : bl V = bl (enc (info V 64)) :=
  bl_eq.2 (enc_unique hV fun i hi => (info_bit V 64 i hi).symm)
/-- Turned by s, k bits of it. -/
def tn (f : Nat → Bool) (s : Nat) : Nat → Nat → Bool
  | 0 => fun _ => false
  | k + 1 => fun m => if m = (k + s) % 127 then f k else tn f s k m
theorem tn_at (f : Nat → Bool) (s : Nat) : ∀ k, k ≤ 127 → ∀ i, i < k → tn f s k ((i + s) % 127) = f i
  | 0, _, i, hi => by omega
  | k + 1, hk, i, hi => by
    unfold tn
    by_cases e : i = k
    · subst e; rw [if_pos rfl]
    · rw [if_neg (by omega), tn_at f s k (by omega) i (by omega)]
theorem tn_cw (f : Nat → Bool) (s : Nat) (hf : Cw f) : Cw (tn f s 127) := by
  refine (hf.rot s).congr fun m hm => ?_
  have e : ((m + 126 * s) % 127 + s) % 127 = m := by omega
  have h1 := tn_at f s 127 (Nat.le_refl _) ((m + 126 * s) % 127) (by omega)
  have h2 := rotN_at f s ((m + 126 * s) % 127) (by omega)
  rw [e] at h1 h2
  rw [h1, h2]
structure Tw (w0 w : World) (b c : Nat) (f g : Nat → Bool) : Prop where
  one : Wd 41 w b f
  two : Wd 41 w c g
  below : Below w0.heap.size w0 w
  new : w0.heap.size ≤ c
  ne : b ≠ c
theorem Tw.set {w0 w : World} {b c : Nat} {f g : Nat → Bool} (h : Tw w0 w b c f g) (i : Nat) (x : Bool) : Tw w0 (w.setCell ⟨c, i, none⟩ (.bool x)) b c f (fun m => if m = i then x else g m) :=
  ⟨(Below.heap_setCell _ _ _ _ h.ne).trans h.one, h.two.set i x, below_gb h.below (gb_setCell _ ⟨c, i, none⟩ _) h.below.size h.new, h.new, h.ne⟩
end Go.Proofs.Ythponlnklmhbeaa
