/- Turns by an angle, undone; what a turn turns of many numbers. -/
import Derived.Test.YthoemgiadadfcaaWsBound
set_option linter.unusedVariables false
set_option linter.unusedSimpArgs false
namespace Go.Proofs.Ythoemgiadadfcaa
namespace Ws
def may (a b : Int) : Prop := -1099511627776 ≤ a ∧ a ≤ 1099511627776 ∧ -1099511627776 ≤ b ∧ b ≤ 1099511627776
instance (a b : Int) : Decidable (may a b) := by unfold may; infer_instance
def kr (k : Int) : Nat := (k % 512).toNat
def spin : Nat → Int → Int → Int × Int
  | 0, a, b => (a, b)
  | n + 1, a, b => spin n (-b) a
def unspin : Nat → Int → Int → Int × Int
  | 0, a, b => (a, b)
  | n + 1, a, b => unspin n b (-a)
theorem spin_succ : ∀ n a b, spin (n + 1) a b = (-(spin n a b).2, (spin n a b).1)
  | 0, a, b => rfl
  | n + 1, a, b => spin_succ n (-b) a
theorem unspin_spin : ∀ n a b, unspin n (spin n a b).1 (spin n a b).2 = (a, b)
  | 0, a, b => rfl
  | n + 1, a, b => by
    rw [spin_succ, unspin, Int.neg_neg]
    exact unspin_spin n a b
theorem spin_le {N : Int} : ∀ n a b, -N ≤ a ∧ a ≤ N → -N ≤ b ∧ b ≤ N → (-N ≤ (spin n a b).1 ∧ (spin n a b).1 ≤ N) ∧ (-N ≤ (spin n a b).2 ∧ (spin n a b).2 ≤ N)
  | 0, a, b, h, h' => ⟨h, h'⟩
  | n + 1, a, b, h, h' => spin_le n (-b) a (by omega) h
/-- Two numbers turned. -/
def tn (a b k : Int) : Int × Int :=
  if may a b then
    if kr k % 128 ≤ 64 then spin (kr k / 128) (fwd (fp (kr k % 128)) (fq (kr k % 128)) a b).1 (fwd (fp (kr k % 128)) (fq (kr k % 128)) a b).2
    else spin (kr k / 128 + 1) (bwd (fp (128 - kr k % 128)) (fq (128 - kr k % 128)) a b).1 (bwd (fp (128 - kr k % 128)) (fq (128 - kr k % 128)) a b).2
  else (a, b)
/-- A turn undone. -/
def bk (a b k : Int) : Int × Int :=
  if may a b then
    if kr k % 128 ≤ 64 then bwd (fp (kr k % 128)) (fq (kr k % 128)) (unspin (kr k / 128) a b).1 (unspin (kr k / 128) a b).2
    else fwd (fp (128 - kr k % 128)) (fq (128 - kr k % 128)) (unspin (kr k / 128 + 1) a b).1 (unspin (kr k / 128 + 1) a b).2
  else (a, b)
/-- The greatest number behind a turn. -/
def gr (M : Int) : Int := (3 * M + 4) / 2
theorem gr_le {M : Int} (h : 0 ≤ M) : M ≤ gr M := by unfold gr; omega
theorem tn_le {a b M : Int} (k : Int) (hM : 0 ≤ M) (hM2 : M ≤ 1099511627776) (ha : -M ≤ a ∧ a ≤ M) (hb : -M ≤ b ∧ b ≤ M) :
    (-(gr M) ≤ (tn a b k).1 ∧ (tn a b k).1 ≤ gr M) ∧ (-(gr M) ≤ (tn a b k).2 ∧ (tn a b k).2 ≤ gr M) := by
  unfold tn
  rw [if_pos (by unfold may; omega)]
  by_cases h : kr k % 128 ≤ 64
  · rw [if_pos h]
    have := fwd_le (show kr k % 128 < 65 by omega) hM hM2 ha hb
    refine spin_le _ _ _ ?_ ?_ <;> unfold gr <;> omega
  · rw [if_neg h]
    have := bwd_le (show 128 - kr k % 128 < 65 by omega) hM hM2 ha hb
    refine spin_le _ _ _ ?_ ?_ <;> unfold gr <;> omega
theorem bk_tn {a b M : Int} (k : Int) (hM : 0 ≤ M) (hM2 : M ≤ 274877906944) (ha : -M ≤ a ∧ a ≤ M) (hb : -M ≤ b ∧ b ≤ M) : bk (tn a b k).1 (tn a b k).2 k = (a, b) := by
  have hl := tn_le k hM (by omega) ha hb
  have hm : may (tn a b k).1 (tn a b k).2 := by unfold may; unfold gr at hl; omega
  unfold bk
  rw [if_pos hm]
  clear hm hl
  unfold tn
  rw [if_pos (show may a b by unfold may; omega)]
  by_cases h : kr k % 128 ≤ 64
  · rw [if_pos h, if_pos h, unspin_spin, bwd_fwd]
  · rw [if_neg h, if_neg h, unspin_spin, fwd_bwd]
/-- Many numbers. -/
abbrev F := Nat → Int
/-- What turns the numbers S alone, by themselves alone. -/
structure Local (S : Nat → Prop) (g : F → F) : Prop where
  out : ∀ f c, ¬ S c → g f c = f c
  own : ∀ f f' : F, (∀ c, S c → f c = f' c) → ∀ c, S c → g f c = g f' c
theorem Local.comp {S : Nat → Prop} {g h : F → F} (hg : Local S g) (hh : Local S h) : Local S (fun f => g (h f)) :=
  ⟨fun f c hc => (hg.out _ _ hc).trans (hh.out _ _ hc), fun f f' he c hc => hg.own _ _ (fun c hc => hh.own _ _ he c hc) c hc⟩
theorem Local.mono {S T : Nat → Prop} {g : F → F} (hg : Local S g) (h : ∀ c, S c → T c) : Local T g :=
  ⟨fun f c hc => hg.out f c fun hs => hc (h c hs), fun f f' he c hc => by
    by_cases hs : S c
    · exact hg.own f f' (fun c hc => he c (h c hc)) c hs
    · rw [hg.out f c hs, hg.out f' c hs]; exact he c hc⟩
theorem Local.comm {S T : Nat → Prop} {g h : F → F} (hg : Local S g) (hh : Local T h) (hd : ∀ c, ¬ (S c ∧ T c)) (f : F) : g (h f) = h (g f) := by
  funext c
  by_cases hs : S c
  · have ht : ¬ T c := fun ht => hd c ⟨hs, ht⟩
    rw [hh.out _ _ ht]
    exact hg.own _ _ (fun c hc => hh.out _ _ fun ht => hd c ⟨hc, ht⟩) c hs
  · rw [hg.out _ _ hs]
    by_cases ht : T c
    · exact hh.own _ _ (fun c hc => (hg.out _ _ fun hs => hd c ⟨hs, hc⟩).symm) c ht
    · rw [hh.out _ _ ht, hh.out _ _ ht, hg.out _ _ hs]
section
variable {ι : Type} {S : ι → Nat → Prop} {φ ψ : ι → F → F}
def run (φ : ι → F → F) (L : List ι) (f : F) : F := L.foldl (fun f p => φ p f) f
theorem run_comm {T : Nat → Prop} {g : F → F} (hg : Local T g) (hφ : ∀ p, Local (S p) (φ p)) : ∀ (L : List ι), (∀ p ∈ L, ∀ c, ¬ (T c ∧ S p c)) → ∀ f, g (run φ L f) = run φ L (g f)
  | [], _, _ => rfl
  | p :: L, hd, f => by
    show g (run φ L (φ p f)) = run φ L (φ p (g f))
    rw [run_comm hg hφ L (fun q hq => hd q (List.mem_cons_of_mem _ hq)), hg.comm (hφ p) (hd p (List.mem_cons_self ..))]
/-- What is done of things that stand apart is undone. -/
theorem run_inv {M : Int} (hφ : ∀ p, Local (S p) (φ p)) (hψ : ∀ p, Local (S p) (ψ p)) :
    ∀ (L : List ι), L.Pairwise (fun p q => ∀ c, ¬ (S p c ∧ S q c)) → (∀ p ∈ L, ∀ f : F, (∀ c, -M ≤ f c ∧ f c ≤ M) → ψ p (φ p f) = f) → ∀ f : F, (∀ c, -M ≤ f c ∧ f c ≤ M) → run ψ L (run φ L f) = f
  | [], _, _, _, _ => rfl
  | p :: L, hd, hi, f, hf => by
    have hd' := List.pairwise_cons.1 hd
    show run ψ L (ψ p (run φ L (φ p f))) = f
    rw [run_comm (hψ p) hφ L hd'.1, hi p (List.mem_cons_self ..) f hf]
    exact run_inv hφ hψ L hd'.2 (fun q hq => hi q (List.mem_cons_of_mem _ hq)) f hf
theorem run_local {T : Nat → Prop} : ∀ (L : List ι), (∀ p ∈ L, Local T (φ p)) → Local T (run φ L)
  | [], _ => ⟨fun _ _ _ => rfl, fun _ _ he c hc => he c hc⟩
  | p :: L, h => (run_local L fun q hq => h q (List.mem_cons_of_mem _ hq)).comp (h p (List.mem_cons_self ..))
theorem run_le' {M N : Int} (hφ : ∀ p, Local (S p) (φ p)) (hb : ∀ p f, (∀ c, S p c → -M ≤ f c ∧ f c ≤ M) → ∀ c, S p c → -N ≤ φ p f c ∧ φ p f c ≤ N) :
    ∀ (L : List ι), L.Pairwise (fun p q => ∀ c, ¬ (S p c ∧ S q c)) → ∀ f : F, (∀ c, -N ≤ f c ∧ f c ≤ N) → (∀ p ∈ L, ∀ c, S p c → -M ≤ f c ∧ f c ≤ M) → ∀ c, -N ≤ run φ L f c ∧ run φ L f c ≤ N
  | [], _, _, hf, _ => hf
  | p :: L, hd, f, hf, hL => by
    have hd' := List.pairwise_cons.1 hd
    refine run_le' hφ hb L hd'.2 (φ p f) (fun c => ?_) (fun q hq c hc => ?_)
    · by_cases hs : S p c
      · exact hb p f (hL p (List.mem_cons_self ..)) c hs
      · rw [(hφ p).out f c hs]; exact hf c
    · rw [(hφ p).out f c fun hs => hd'.1 q hq c ⟨hs, hc⟩]
      exact hL q (List.mem_cons_of_mem _ hq) c hc
theorem run_le {M N : Int} (hMN : M ≤ N) (hφ : ∀ p, Local (S p) (φ p)) (hb : ∀ p f, (∀ c, S p c → -M ≤ f c ∧ f c ≤ M) → ∀ c, S p c → -N ≤ φ p f c ∧ φ p f c ≤ N)
    (L : List ι) (hL : L.Pairwise (fun p q => ∀ c, ¬ (S p c ∧ S q c))) (f : F) (hf : ∀ c, -M ≤ f c ∧ f c ≤ M) : ∀ c, -N ≤ run φ L f c ∧ run φ L f c ≤ N :=
  run_le' hφ hb L hL f (fun c => by have := hf c; omega) (fun _ _ c _ => hf c)
end
/-- Two of many numbers turned. -/
def po (φ : Int → Int → Int × Int) (x y : Nat) (f : F) : F := fun c => if c = y then (φ (f x) (f y)).2 else if c = x then (φ (f x) (f y)).1 else f c
theorem po_local (φ : Int → Int → Int × Int) (x y : Nat) : Local (fun c => c = x ∨ c = y) (po φ x y) := by
  refine ⟨fun f c hc => ?_, fun f f' he c hc => ?_⟩
  · unfold po
    rw [if_neg (fun h => hc (.inr h)), if_neg (fun h => hc (.inl h))]
  · unfold po
    rw [he x (.inl rfl), he y (.inr rfl), he c hc]
theorem po_inv {φ ψ : Int → Int → Int × Int} {x y : Nat} (hxy : x ≠ y) (f : F) (h : ψ (φ (f x) (f y)).1 (φ (f x) (f y)).2 = (f x, f y)) : po ψ x y (po φ x y f) = f := by
  funext c
  have hx : po φ x y f x = (φ (f x) (f y)).1 := by unfold po; rw [if_neg hxy, if_pos rfl]
  have hy : po φ x y f y = (φ (f x) (f y)).2 := by unfold po; rw [if_pos rfl]
  rw [po, hx, hy, h]
  by_cases h1 : c = y
  · rw [if_pos h1, h1]
  · rw [if_neg h1]
    by_cases h2 : c = x
    · rw [if_pos h2, h2]
    · rw [if_neg h2, po, if_neg h1, if_neg h2]
theorem po_le {φ : Int → Int → Int × Int} {x y : Nat} {f : F} {N : Int} (h1 : -N ≤ (φ (f x) (f y)).1 ∧ (φ (f x) (f y)).1 ≤ N) (h2 : -N ≤ (φ (f x) (f y)).2 ∧ (φ (f x) (f y)).2 ≤ N) :
    ∀ c, (c = x ∨ c = y) → -N ≤ po φ x y f c ∧ po φ x y f c ≤ N := by
  intro c hc
  unfold po
  by_cases e1 : c = y
  · rw [if_pos e1]; exact h2
  · rw [if_neg e1, if_pos (hc.resolve_right e1)]; exact h1
end Ws
end Go.Proofs.Ythoemgiadadfcaa
