/- A frame's waves, and the way back, as plain numbers: one undoes the other. -/
import Derived.Test.YthoemgiadadfcaaWsTurn
set_option linter.unusedVariables false
set_option linter.unusedSimpArgs false
namespace Go.Proofs.Ythoemgiadadfcaa
namespace Ws
def turnAt (i : Nat) (k : Int) : F → F := po (fun a b => tn a b k) (2 * i) (2 * i + 1)
def backAt (i : Nat) (k : Int) : F → F := po (fun a b => bk a b k) (2 * i) (2 * i + 1)
def crossN (i j n : Nat) : F → F := po (fun u v => ((tn u v 64).2, (tn u v 64).1)) (2 * i + n) (2 * j + n)
def uncrossN (i j n : Nat) : F → F := po (fun x y => bk y x 64) (2 * i + n) (2 * j + n)
def cross (i j : Nat) (f : F) : F := crossN i j 1 (crossN i j 0 f)
def uncross (i j : Nat) (f : F) : F := uncrossN i j 1 (uncrossN i j 0 f)
abbrev Q := Nat × Nat × Int
def ahead (p : Q) (f : F) : F := turnAt p.2.1 p.2.2 (cross p.1 p.2.1 f)
def behind (p : Q) (f : F) : F := uncross p.1 p.2.1 (backAt p.2.1 p.2.2 f)
def Sq (p : Q) (c : Nat) : Prop := c = 2 * p.1 ∨ c = 2 * p.1 + 1 ∨ c = 2 * p.2.1 ∨ c = 2 * p.2.1 + 1
theorem crossN_local (p : Q) (n : Nat) (hn : n < 2) : Local (Sq p) (crossN p.1 p.2.1 n) := (po_local _ _ _).mono fun c hc => by unfold Sq; omega
theorem uncrossN_local (p : Q) (n : Nat) (hn : n < 2) : Local (Sq p) (uncrossN p.1 p.2.1 n) := (po_local _ _ _).mono fun c hc => by unfold Sq; omega
theorem cross_local (p : Q) : Local (Sq p) (cross p.1 p.2.1) := (crossN_local p 1 (by omega)).comp (crossN_local p 0 (by omega))
theorem uncross_local (p : Q) : Local (Sq p) (uncross p.1 p.2.1) := (uncrossN_local p 1 (by omega)).comp (uncrossN_local p 0 (by omega))
theorem ahead_local (p : Q) : Local (Sq p) (ahead p) := by
  have h : Local (Sq p) (turnAt p.2.1 p.2.2) := (po_local _ _ _).mono fun c hc => by unfold Sq; omega
  exact h.comp (cross_local p)
theorem behind_local (p : Q) : Local (Sq p) (behind p) := by
  have h : Local (Sq p) (backAt p.2.1 p.2.2) := (po_local _ _ _).mono fun c hc => by unfold Sq; omega
  exact (uncross_local p).comp h
theorem cross_le (p : Q) (hp : p.1 ≠ p.2.1) {M : Int} (hM : 0 ≤ M) (hM2 : M ≤ 1099511627776) (f : F) (hf : ∀ c, Sq p c → -M ≤ f c ∧ f c ≤ M) : ∀ c, Sq p c → -(gr M) ≤ cross p.1 p.2.1 f c ∧ cross p.1 p.2.1 f c ≤ gr M := by
  have hg := gr_le hM
  have k : ∀ n, n < 2 → ∀ g : F, (-M ≤ g (2 * p.1 + n) ∧ g (2 * p.1 + n) ≤ M) → (-M ≤ g (2 * p.2.1 + n) ∧ g (2 * p.2.1 + n) ≤ M) → ∀ c, (c = 2 * p.1 + n ∨ c = 2 * p.2.1 + n) → -(gr M) ≤ crossN p.1 p.2.1 n g c ∧ crossN p.1 p.2.1 n g c ≤ gr M := by
    intro n hn g h1 h2 c hc
    have := tn_le 64 hM hM2 h1 h2
    exact po_le (φ := fun u v => ((tn u v 64).2, (tn u v 64).1)) this.2 this.1 c hc
  intro c hc
  have o0 : ∀ c, ¬ (c = 2 * p.1 + 0 ∨ c = 2 * p.2.1 + 0) → crossN p.1 p.2.1 0 f c = f c := (po_local _ _ _).out f
  have o1 : ∀ g c, ¬ (c = 2 * p.1 + 1 ∨ c = 2 * p.2.1 + 1) → crossN p.1 p.2.1 1 g c = g c := (po_local _ _ _).out
  unfold cross
  by_cases h : c = 2 * p.1 + 1 ∨ c = 2 * p.2.1 + 1
  · refine k 1 (by omega) _ ?_ ?_ c h
    · rw [o0 _ (by omega)]; exact hf _ (by unfold Sq; omega)
    · rw [o0 _ (by omega)]; exact hf _ (by unfold Sq; omega)
  · rw [o1 _ c h]
    exact k 0 (by omega) f (hf _ (by unfold Sq; omega)) (hf _ (by unfold Sq; omega)) c (by unfold Sq at hc; omega)
theorem ahead_le (p : Q) (hp : p.1 ≠ p.2.1) {M : Int} (hM : 0 ≤ M) (hM2 : M ≤ 274877906944) (f : F) (hf : ∀ c, Sq p c → -M ≤ f c ∧ f c ≤ M) : ∀ c, Sq p c → -(gr (gr M)) ≤ ahead p f c ∧ ahead p f c ≤ gr (gr M) := by
  have h1 := cross_le p hp hM (by omega) f hf
  have hg := gr_le hM
  have hg0 : 0 ≤ gr M := by omega
  have hg2 := gr_le hg0
  intro c hc
  unfold ahead
  by_cases h : c = 2 * p.2.1 ∨ c = 2 * p.2.1 + 1
  · have := tn_le (a := cross p.1 p.2.1 f (2 * p.2.1)) (b := cross p.1 p.2.1 f (2 * p.2.1 + 1)) p.2.2 hg0 (by unfold gr; omega) (h1 _ (by unfold Sq; omega)) (h1 _ (by unfold Sq; omega))
    exact po_le (φ := fun a b => tn a b p.2.2) this.1 this.2 c h
  · have e : turnAt p.2.1 p.2.2 (cross p.1 p.2.1 f) c = cross p.1 p.2.1 f c := (po_local _ _ _).out _ c h
    rw [e]
    have := h1 c hc
    omega
theorem behind_ahead (p : Q) (hp : p.1 ≠ p.2.1) {M : Int} (hM : 0 ≤ M) (hM2 : M ≤ 137438953472) (f : F) (hf : ∀ c, -M ≤ f c ∧ f c ≤ M) : behind p (ahead p f) = f := by
  have h1 := cross_le p hp hM (by omega) f (fun c _ => hf c)
  have hg0 : 0 ≤ gr M := by have := gr_le hM; omega
  unfold behind ahead
  have e1 : backAt p.2.1 p.2.2 (turnAt p.2.1 p.2.2 (cross p.1 p.2.1 f)) = cross p.1 p.2.1 f :=
    po_inv (by omega) _ (bk_tn p.2.2 hg0 (by unfold gr; omega) (h1 _ (by unfold Sq; omega)) (h1 _ (by unfold Sq; omega)))
  rw [e1]
  unfold cross uncross
  have e2 : uncrossN p.1 p.2.1 0 (crossN p.1 p.2.1 1 (crossN p.1 p.2.1 0 f)) = crossN p.1 p.2.1 1 (uncrossN p.1 p.2.1 0 (crossN p.1 p.2.1 0 f)) :=
    Local.comm (S := fun c => c = 2 * p.1 + 0 ∨ c = 2 * p.2.1 + 0) (T := fun c => c = 2 * p.1 + 1 ∨ c = 2 * p.2.1 + 1) (po_local _ _ _) (po_local _ _ _) (fun c => by omega) _
  have e3 : ∀ n, uncrossN p.1 p.2.1 n (crossN p.1 p.2.1 n f) = f := fun n => po_inv (by omega) _ (bk_tn 64 hM (by omega) (hf _) (hf _))
  rw [e2, e3, e3]
/-- The steps of a stage. -/
def stL (s : Nat) : List Q := (List.range (16 / s)).flatMap fun a => (List.range (s / 2)).map fun i => (a * s + i, a * s + i + s / 2, -((i * 512 / s : Nat) : Int))
def apartQ (p q : Q) : Prop := p.1 ≠ q.1 ∧ p.1 ≠ q.2.1 ∧ p.2.1 ≠ q.1 ∧ p.2.1 ≠ q.2.1
instance (p q : Q) : Decidable (apartQ p q) := by unfold apartQ; infer_instance
def Stage (s : Nat) : Prop := (stL s).Pairwise apartQ ∧ ∀ p ∈ stL s, p.1 ≠ p.2.1 ∧ p.1 < 16 ∧ p.2.1 < 16
theorem stages : Stage 2 ∧ Stage 4 ∧ Stage 8 ∧ Stage 16 := by
  unfold Stage
  decide +kernel
theorem stage_apart {s : Nat} (h : Stage s) : (stL s).Pairwise (fun p q => ∀ c, ¬ (Sq p c ∧ Sq q c)) := h.1.imp fun {p q} hpq c hc => by
  unfold apartQ at hpq; unfold Sq at hc; omega
theorem stage_inv {s : Nat} (h : Stage s) {M : Int} (hM : 0 ≤ M) (hM2 : M ≤ 137438953472) (f : F) (hf : ∀ c, -M ≤ f c ∧ f c ≤ M) : run behind (stL s) (run ahead (stL s) f) = f :=
  run_inv ahead_local behind_local (stL s) (stage_apart h) (fun p hp g hg => behind_ahead p (h.2 p hp).1 hM hM2 g hg) f hf
theorem stage_local {s : Nat} (h : Stage s) : Local (· < 32) (run behind (stL s)) :=
  run_local _ fun p hp => (behind_local p).mono fun c hc => by have := h.2 p hp; unfold Sq at hc; show c < 32; omega
theorem run_le_mem {ι : Type} {S : ι → Nat → Prop} {φ : ι → F → F} {M N : Int} (hMN : M ≤ N) (hφ : ∀ p, Local (S p) (φ p)) :
    ∀ (L : List ι), (∀ p ∈ L, ∀ f : F, (∀ c, S p c → -M ≤ f c ∧ f c ≤ M) → ∀ c, S p c → -N ≤ φ p f c ∧ φ p f c ≤ N) → L.Pairwise (fun p q => ∀ c, ¬ (S p c ∧ S q c)) →
      ∀ f : F, (∀ c, -N ≤ f c ∧ f c ≤ N) → (∀ p ∈ L, ∀ c, S p c → -M ≤ f c ∧ f c ≤ M) → ∀ c, -N ≤ run φ L f c ∧ run φ L f c ≤ N
  | [], _, _, _, hf, _ => hf
  | p :: L, hb, hd, f, hf, hL => by
    have hd' := List.pairwise_cons.1 hd
    refine run_le_mem hMN hφ L (fun q hq => hb q (List.mem_cons_of_mem _ hq)) hd'.2 (φ p f) (fun c => ?_) (fun q hq c hc => ?_)
    · by_cases hs : S p c
      · exact hb p (List.mem_cons_self ..) f (hL p (List.mem_cons_self ..)) c hs
      · rw [(hφ p).out f c hs]; exact hf c
    · rw [(hφ p).out f c fun hs => hd'.1 q hq c ⟨hs, hc⟩]
      exact hL q (List.mem_cons_of_mem _ hq) c hc
theorem stage_le {s : Nat} (h : Stage s) {M : Int} (hM : 0 ≤ M) (hM2 : M ≤ 274877906944) (f : F) (hf : ∀ c, -M ≤ f c ∧ f c ≤ M) : ∀ c, -(gr (gr M)) ≤ run ahead (stL s) f c ∧ run ahead (stL s) f c ≤ gr (gr M) := by
  have hg := gr_le hM
  have hg2 := gr_le (show 0 ≤ gr M by omega)
  exact run_le_mem (show M ≤ gr (gr M) by omega) ahead_local (stL s) (fun p hp g hg => ahead_le p (h.2 p hp).1 hM hM2 g hg) (stage_apart h) f (fun c => by have := hf c; omega) (fun p _ c _ => hf c)
/-- Four bits read backward. -/
def flip (k : Nat) : Nat := k / 8 % 2 + k / 4 % 2 * 2 + k / 2 % 2 * 4 + k % 2 * 8
theorem flip_lt (k : Nat) : flip k < 16 := by unfold flip; omega
theorem flip_flip : ∀ k, k < 16 → flip (flip k) = k := by decide
def edge (n : Nat) : Int := -(8 * (n : Int) + 2)
/-- A component. -/
def pk (c : Nat) (t : Int × Int) : Int := if c % 2 = 0 then t.1 else t.2
/-- The points, turned on the way in. -/
def w1 (f : F) : F := fun c => pk c (tn (f (2 * (c / 2))) (f (31 - 2 * (c / 2))) (edge (c / 2)))
def w5 (f : F) : F := run ahead (stL 2) (run ahead (stL 4) (run ahead (stL 8) (run ahead (stL 16) (w1 f))))
def w6 (v : F) : F := fun c => pk c (tn (v (2 * (c / 2))) (v (2 * (c / 2) + 1)) (edge (flip (c / 2))))
def fold6 (v : F) : F := fun c => if c % 2 = 0 then v (2 * flip (c / 2)) else -v (2 * flip ((31 - c) / 2) + 1)
def waves (f : F) : F := fold6 (w6 (w5 f))
/-- The way back. -/
def b1 (f : F) : F := fun c => pk c (bk (f (2 * flip (c / 2))) (-f (31 - 2 * flip (c / 2))) (edge (flip (c / 2))))
def b5 (f : F) : F := run behind (stL 16) (run behind (stL 8) (run behind (stL 4) (run behind (stL 2) (b1 f))))
def b6 (v : F) : F := fun c => if c % 2 = 0 then (bk (v (2 * (c / 2))) (v (2 * (c / 2) + 1)) (edge (c / 2))).1 else (bk (v (2 * ((31 - c) / 2))) (v (2 * ((31 - c) / 2) + 1)) (edge ((31 - c) / 2))).2
def waveb (f : F) : F := b6 (b5 f)
def Bd (M : Int) (f : F) : Prop := ∀ c, -M ≤ f c ∧ f c ≤ M
theorem w1_le {M : Int} (hM : 0 ≤ M) (hM2 : M ≤ 1099511627776) {f : F} (hf : Bd M f) : Bd (gr M) (w1 f) := fun c => by
  have := tn_le (edge (c / 2)) hM hM2 (hf (2 * (c / 2))) (hf (31 - 2 * (c / 2)))
  unfold w1 pk
  split
  · exact this.1
  · exact this.2
theorem w6_le {M : Int} (hM : 0 ≤ M) (hM2 : M ≤ 1099511627776) {f : F} (hf : Bd M f) : Bd (gr M) (w6 f) := fun c => by
  have := tn_le (edge (flip (c / 2))) hM hM2 (hf (2 * (c / 2))) (hf (2 * (c / 2) + 1))
  unfold w6 pk
  split
  · exact this.1
  · exact this.2
theorem w5_le {M : Int} (hM : 0 ≤ M) (hM2 : M ≤ 16777216) {f : F} (hf : Bd M f) : Bd (gr (gr (gr (gr (gr (gr (gr (gr (gr M))))))))) (w5 f) := by
  obtain ⟨s2, s4, s8, s16⟩ := stages
  have g : ∀ {N : Int}, 0 ≤ N → 0 ≤ gr N := fun h => by have := gr_le h; omega
  have u : ∀ {N K : Int}, N ≤ K → gr N ≤ gr K := fun h => by unfold gr; omega
  have h1 := w1_le hM (by omega) hf
  have m1 := u hM2
  have m2 := u m1
  have m3 := u m2
  have m4 := u m3
  have m5 := u m4
  have m6 := u m5
  have m7 := u m6
  have c1 : gr 16777216 = 25165826 := by decide
  have c2 : gr 25165826 = 37748741 := by decide
  have c3 : gr 37748741 = 56623113 := by decide
  have c4 : gr 56623113 = 84934671 := by decide
  have c5 : gr 84934671 = 127402008 := by decide
  have c6 : gr 127402008 = 191103014 := by decide
  have c7 : gr 191103014 = 286654523 := by decide
  rw [c1] at m1 m2 m3 m4 m5 m6 m7
  rw [c2] at m2 m3 m4 m5 m6 m7
  rw [c3] at m3 m4 m5 m6 m7
  rw [c4] at m4 m5 m6 m7
  rw [c5] at m5 m6 m7
  rw [c6] at m6 m7
  rw [c7] at m7
  have h2 := stage_le s16 (g hM) (by omega) _ h1
  have h3 := stage_le s8 (g (g (g hM))) (by omega) _ h2
  have h4 := stage_le s4 (g (g (g (g (g hM))))) (by omega) _ h3
  exact stage_le s2 (g (g (g (g (g (g (g hM))))))) (by omega) _ h4
theorem fold6_le {M : Int} {v : F} (hv : Bd M v) : Bd M (fold6 v) := fun c => by
  unfold fold6
  split
  · exact hv _
  · have := hv (2 * flip ((31 - c) / 2) + 1); omega
theorem pk_mk (v : F) (c : Nat) : pk c (v (2 * (c / 2)), v (2 * (c / 2) + 1)) = v c := by
  unfold pk
  by_cases h : c % 2 = 0
  · rw [if_pos h]; show v (2 * (c / 2)) = v c; congr 1; omega
  · rw [if_neg h]; show v (2 * (c / 2) + 1) = v c; congr 1; omega
theorem w6_even (v : F) (n : Nat) : w6 v (2 * n) = (tn (v (2 * n)) (v (2 * n + 1)) (edge (flip n))).1 := by
  unfold w6 pk
  rw [show 2 * n / 2 = n by omega, if_pos (by omega)]
theorem w6_odd (v : F) (n : Nat) : w6 v (2 * n + 1) = (tn (v (2 * n)) (v (2 * n + 1)) (edge (flip n))).2 := by
  unfold w6 pk
  rw [show (2 * n + 1) / 2 = n by omega, if_neg (by omega)]
theorem w1_even (f : F) (n : Nat) : w1 f (2 * n) = (tn (f (2 * n)) (f (31 - 2 * n)) (edge n)).1 := by
  unfold w1 pk
  rw [show 2 * n / 2 = n by omega, if_pos (by omega)]
theorem w1_odd (f : F) (n : Nat) : w1 f (2 * n + 1) = (tn (f (2 * n)) (f (31 - 2 * n)) (edge n)).2 := by
  unfold w1 pk
  rw [show (2 * n + 1) / 2 = n by omega, if_neg (by omega)]
theorem b1_fold {M : Int} (hM : 0 ≤ M) (hM2 : M ≤ 274877906944) {v : F} (hv : Bd M v) (c : Nat) (hc : c < 32) : b1 (fold6 (w6 v)) c = v c := by
  have hF : c / 2 < 16 := by omega
  have e1 : fold6 (w6 v) (2 * flip (c / 2)) = (tn (v (2 * (c / 2))) (v (2 * (c / 2) + 1)) (edge (flip (c / 2)))).1 := by
    unfold fold6
    rw [if_pos (by omega), show 2 * flip (c / 2) / 2 = flip (c / 2) by omega, flip_flip _ hF, w6_even]
  have hl := flip_lt (c / 2)
  have e2 : fold6 (w6 v) (31 - 2 * flip (c / 2)) = -(tn (v (2 * (c / 2))) (v (2 * (c / 2) + 1)) (edge (flip (c / 2)))).2 := by
    unfold fold6
    rw [if_neg (by omega), show (31 - (31 - 2 * flip (c / 2))) / 2 = flip (c / 2) by omega, flip_flip _ hF, w6_odd]
  unfold b1
  rw [e1, e2, Int.neg_neg, bk_tn _ hM hM2 (hv _) (hv _), pk_mk]
/-- The way back is one. -/
theorem waveb_waves {M : Int} (hM : 0 ≤ M) (hM2 : M ≤ 16777216) {f : F} (hf : Bd M f) (c : Nat) (hc : c < 32) : waveb (waves f) c = f c := by
  obtain ⟨s2, s4, s8, s16⟩ := stages
  have g : ∀ {N : Int}, 0 ≤ N → 0 ≤ gr N := fun h => by have := gr_le h; omega
  have u : ∀ {N K : Int}, N ≤ K → gr N ≤ gr K := fun h => by unfold gr; omega
  have h1 := w1_le hM (by omega) hf
  have m1 := u hM2
  have m2 := u m1
  have m3 := u m2
  have m4 := u m3
  have m5 := u m4
  have m6 := u m5
  have m7 := u m6
  have m8 := u m7
  have m9 := u m8
  have c1 : gr 16777216 = 25165826 := by decide
  have c2 : gr 25165826 = 37748741 := by decide
  have c3 : gr 37748741 = 56623113 := by decide
  have c4 : gr 56623113 = 84934671 := by decide
  have c5 : gr 84934671 = 127402008 := by decide
  have c6 : gr 127402008 = 191103014 := by decide
  have c7 : gr 191103014 = 286654523 := by decide
  have c8 : gr 286654523 = 429981786 := by decide
  have c9 : gr 429981786 = 644972681 := by decide
  rw [c1] at m1 m2 m3 m4 m5 m6 m7 m8 m9
  rw [c2] at m2 m3 m4 m5 m6 m7 m8 m9
  rw [c3] at m3 m4 m5 m6 m7 m8 m9
  rw [c4] at m4 m5 m6 m7 m8 m9
  rw [c5] at m5 m6 m7 m8 m9
  rw [c6] at m6 m7 m8 m9
  rw [c7] at m7 m8 m9
  rw [c8] at m8 m9
  rw [c9] at m9
  have h2 := stage_le s16 (g hM) (by omega) _ h1
  have h3 := stage_le s8 (g (g (g hM))) (by omega) _ h2
  have h4 := stage_le s4 (g (g (g (g (g hM))))) (by omega) _ h3
  have h5 := w5_le hM hM2 hf
  have hb : ∀ c, c < 32 → b1 (waves f) c = w5 f c := fun c hc => b1_fold (g (g (g (g (g (g (g (g (g hM))))))))) (by omega) h5 c hc
  have i2 : ∀ c, c < 32 → run behind (stL 2) (b1 (waves f)) c = run ahead (stL 4) (run ahead (stL 8) (run ahead (stL 16) (w1 f))) c := fun c hc => by
    rw [(stage_local s2).own _ _ hb c hc]
    exact congrFun (stage_inv s2 (g (g (g (g (g (g (g hM))))))) (by omega) _ h4) c
  have i4 : ∀ c, c < 32 → run behind (stL 4) (run behind (stL 2) (b1 (waves f))) c = run ahead (stL 8) (run ahead (stL 16) (w1 f)) c := fun c hc => by
    rw [(stage_local s4).own _ _ i2 c hc]
    exact congrFun (stage_inv s4 (g (g (g (g (g hM))))) (by omega) _ h3) c
  have i8 : ∀ c, c < 32 → run behind (stL 8) (run behind (stL 4) (run behind (stL 2) (b1 (waves f)))) c = run ahead (stL 16) (w1 f) c := fun c hc => by
    rw [(stage_local s8).own _ _ i4 c hc]
    exact congrFun (stage_inv s8 (g (g (g hM))) (by omega) _ h2) c
  have i16 : ∀ c, c < 32 → b5 (waves f) c = w1 f c := fun c hc => by
    unfold b5
    rw [(stage_local s16).own _ _ i8 c hc]
    exact congrFun (stage_inv s16 (g hM) (by omega) _ h1) c
  unfold waveb b6
  by_cases h : c % 2 = 0
  · rw [if_pos h, i16 _ (by omega), i16 _ (by omega), w1_even, w1_odd, bk_tn _ hM (by omega) (hf _) (hf _)]
    show f (2 * (c / 2)) = f c
    congr 1; omega
  · rw [if_neg h, i16 _ (by omega), i16 _ (by omega), w1_even, w1_odd, bk_tn _ hM (by omega) (hf _) (hf _)]
    show f (31 - 2 * ((31 - c) / 2)) = f c
    congr 1; omega
theorem waves_le {M : Int} (hM : 0 ≤ M) (hM2 : M ≤ 16777216) {f : F} (hf : Bd M f) : Bd (gr (gr (gr (gr (gr (gr (gr (gr (gr (gr M)))))))))) (waves f) := by
  have h5 := w5_le hM hM2 hf
  have g : ∀ {N : Int}, 0 ≤ N → 0 ≤ gr N := fun h => by have := gr_le h; omega
  have u : ∀ {N K : Int}, N ≤ K → gr N ≤ gr K := fun h => by unfold gr; omega
  have m9 := u (u (u (u (u (u (u (u (u hM2))))))))
  have c9 : gr (gr (gr (gr (gr (gr (gr (gr (gr 16777216)))))))) = 644972681 := by decide +kernel
  rw [c9] at m9
  exact fold6_le (w6_le (g (g (g (g (g (g (g (g (g hM))))))))) (by omega) h5)
end Ws
end Go.Proofs.Ythoemgiadadfcaa
