/- Polynomials at elements: (*field.Field).Eval and the law FieldEval. -/
import Derived.Test.YthponlnklmhbeaaFieldPlays
import Derived.ProofKit
import Derived.OpenShut
set_option linter.unusedVariables false
set_option linter.unusedSimpArgs false
namespace Go.Proofs.Ythponlnklmhbeaa
open Go.RowKit Go.Sort F7
def Ints (w : World) (a : Option Addr) (n : Nat) (zs : List Int) : Prop :=
  zs.length = n ∧ (0 < n → ∃ b o, a = some ⟨b, o, none⟩ ∧ b < w.heap.size ∧ ∀ i, i < n → w.cell? ⟨b, o + i, none⟩ = some (.int .i64 (zs.getD i 0)))
theorem Ints.below {w w' : World} {a : Option Addr} {n : Nat} {zs : List Int} (h : Ints w a n zs) (hb : Below w.heap.size w w') : Ints w' a n zs :=
  ⟨h.1, fun hn => by
    obtain ⟨b, o, h1, h2, h3⟩ := h.2 hn
    exact ⟨b, o, h1, Nat.lt_of_lt_of_le h2 hb.size, fun i hi => (hb.cell h2).trans (h3 i hi)⟩⟩
/-- What a polynomial is at x. -/
def evL (zs : List Int) (x : Nat) : Nat := zs.foldr (fun c acc => mul acc x ^^^ r7 c) 0
theorem evL_lt (zs : List Int) (x : Nat) : evL zs x < 128 := by
  cases zs with
  | nil => simp [evL]
  | cons c zs => exact xor_lt _ _ (mul_lt _ _) (r7_lt c)
theorem evL_drop (zs : List Int) (x p : Nat) (h : p < zs.length) : evL (zs.drop p) x = mul (evL (zs.drop (p + 1)) x) x ^^^ r7 (zs.getD p 0) := by
  rw [List.drop_eq_getElem_cons h, List.getD_eq_getElem?_getD, List.getElem?_eq_getElem h]
  rfl
theorem quiet_of {f : FuncId} {args : Array Value} {w : World} {n : Nat} {v : Value} (h : Calls Try.prog f args (w.drewN n) fun e w' => e = .returned v ∧ ∃ k, w' = (w.drewN n).drewN k) :
    Calls Try.prog f args (w.drewN n) fun e w'' => e = .returned v ∧ ∃ m, w'' = w.drewN m :=
  h.mono fun _ _ ⟨he, k, hk⟩ => ⟨he, n + k, by rw [hk, drew2]⟩
set_option maxRecDepth 100000 in
theorem eval_is (b : Nat) (a0 : Option Addr) (n cap : Nat) (zs : List Int) (m : Int) (W : World) (hn : n ≤ 1000) (h : Fd W b) (hz : Ints W a0 n zs) :
    Calls Try.prog 19 #[.pointer (some ⟨b, 0, none⟩), .slice a0 n cap, .int .i64 m] W fun e w' => e = .returned (.int .i64 (evL zs (r7 m))) ∧ ∃ k, w' = W.drewN k := by
  have hmul : ∀ (b p : Nat) w, p < 128 → Fd w b → Calls Try.prog 17 #[.pointer (some ⟨b, 0, none⟩), .int .i64 p, .int .i64 m] w fun e w' => e = .returned (.int .i64 (mul p (r7 m))) ∧ ∃ k, w' = w.drewN k := fun b p w hp hf => by
    have := mul_is b p m w hf
    rw [r7_nat hp] at this
    exact this
  obtain ⟨x, hx⟩ : ∃ x, x = r7 m := ⟨_, rfl⟩
  rw [← hx] at hmul
  rw [← hx]
  clear hx
  have hlen := hz.1
  have HF := Lib.hid h
  have HZ := Lib.hid hz
  clear h hz
  go_enter Try.func19, Try.ntmps19
  go_wp2
  go_loopw [7, 8] (fun o i wr => ∃ j : Nat, j ≤ n ∧ i = .int .i64 ((j : Int) - 1) ∧ o = .int .i64 (evL (zs.drop j) x) ∧ Hid (∃ k, wr = W.drewN k)) (fun _ i _ => (intOf i + 1).toNat)
  case atStart => exact ⟨n, Nat.le_refl _, rfl, by rw [List.drop_of_length_le (by omega)]; rfl, Lib.hid ⟨0, rfl⟩⟩
  case round =>
    obtain ⟨j, hj, rfl, rfl, hw⟩ := hrel
    by_cases h0 : j = 0
    · subst h0
      rw [List.drop_zero]
      have e : ((0 : Nat) : Int) - 1 = -1 := by omega
      rw [e]
      clear e hmul
      go_wp2
      go_ret
      obtain ⟨k, rfl⟩ := hw.out
      exact ⟨rfl, k, rfl⟩
    · obtain ⟨p, rfl⟩ : ∃ p, j = p + 1 := ⟨j - 1, by omega⟩
      have e : ((p + 1 : Nat) : Int) - 1 = p := by omega
      rw [e]
      have hFw : Fd wr b := by obtain ⟨k, rfl⟩ := hw.out; exact HF.out.drewN k
      have hzw : Ints wr a0 n zs := by obtain ⟨k, rfl⟩ := hw.out; exact HZ.out.below (below_drewN _ _)
      obtain ⟨g, o, rfl, hg, hcell⟩ := hzw.2 (by omega)
      have hc := hcell p (by omega)
      have hnx := evL_drop zs x p (by omega)
      obtain ⟨c, hce⟩ : ∃ c, c = zs.getD p 0 := ⟨_, rfl⟩
      rw [← hce] at hc hnx
      have hl := evL_lt (zs.drop (p + 1)) x
      obtain ⟨T, hT⟩ : ∃ T, T = evL (zs.drop (p + 1)) x := ⟨_, rfl⟩
      rw [← hT] at hl hnx
      rw [← hT]
      have q1 : ∀ n, Calls Try.prog 17 #[.pointer (some ⟨b, 0, none⟩), .int .i64 T, .int .i64 m] (wr.drewN n) _ := fun n => quiet_of (hmul b T _ hl (hFw.drewN n))
      have q2 : ∀ n, Calls Try.prog 17 #[.pointer (some ⟨b, 0, none⟩), .int .i64 c, .int .i64 1] (wr.drewN n) fun e w'' => e = .returned (.int .i64 (r7 c)) ∧ ∃ m, w'' = wr.drewN m := fun n => quiet_of (by
        have := mul_is b c 1 _ (hFw.drewN n)
        rw [show r7 1 = 1 by decide, mul_one _ (r7_lt c)] at this
        exact this)
      have hxo := xor_i64 (mul T x) (r7 c) (by have := mul_lt T x; omega) (by have := r7_lt c; omega)
      rw [← hnx] at hxo
      have HX := Lib.hid hxo
      clear hxo hnx hT hce hcell hzw hFw hmul hl e
      go_wp2
      go_quiet (first | (with_reducible exact q1 _) | (with_reducible exact q2 _))
      go_wp2
      go_roundw
      case rel =>
        refine ⟨p, by omega, rfl, by rw [← HX.out], Lib.hid ?_⟩
        obtain ⟨k, rfl⟩ := hw.out
        exact ⟨_, drew2 _ _ _⟩
      case measure => first | (simp [intOf]; done) | (simp [intOf]; omega)
theorem logNil (n : Int) (w : World) : Calls Try.prog 21 #[.pointer none, .int .i64 n] w fun e w' => e = .returned (.int .i64 (-1)) ∧ w' = w := by
  go_enter Try.func21, Try.ntmps21
  go_wp2
  go_ret
  exact ⟨rfl, rfl⟩
theorem expNil (n : Int) (w : World) : Calls Try.prog 20 #[.pointer none, .int .i64 n] w fun e w' => e = .returned (.int .i64 0) ∧ w' = w := by
  go_enter Try.func20, Try.ntmps20
  go_wp2
  go_ret
  exact ⟨rfl, rfl⟩
theorem mulNil (n m : Int) (w : World) : Calls Try.prog 17 #[.pointer none, .int .i64 n, .int .i64 m] w fun e w' => e = .returned (.int .i64 0) ∧ w' = w := by
  have r1 := fun w => logNil n w
  have r2 := fun w => logNil m w
  go_enter Try.func17, Try.ntmps17
  go_wp2_with (first | (go_at_call 21; (with_reducible refine (r1 _).mono ?_); rintro e v1 ⟨rfl, hv1⟩; have hv1 := hv1.symm; subst hv1) | (go_at_call 21; (with_reducible refine (r2 _).mono ?_); rintro e v1 ⟨rfl, hv1⟩; have hv1 := hv1.symm; subst hv1))
  go_ret
  exact ⟨rfl, rfl⟩
theorem powNil (n m : Int) (w : World) : Calls Try.prog 22 #[.pointer none, .int .i64 n, .int .i64 m] w fun e w' => e = .returned (.int .i64 0) ∧ w' = w := by
  have r1 := fun w => logNil n w
  go_enter Try.func22, Try.ntmps22
  go_wp2_with (first | (go_at_call 21; (with_reducible refine (r1 _).mono ?_); rintro e v1 ⟨rfl, hv1⟩; have hv1 := hv1.symm; subst hv1))
  go_ret
  exact ⟨rfl, rfl⟩
set_option maxRecDepth 100000 in
theorem evalNil (a0 : Option Addr) (n cap : Nat) (zs : List Int) (m : Int) (W : World) (hn : n ≤ 1000) (hz : Ints W a0 n zs) :
    Calls Try.prog 19 #[.pointer none, .slice a0 n cap, .int .i64 m] W fun e w' => e = .returned (.int .i64 0) ∧ ∃ k, w' = W.drewN k := by
  have HZ := Lib.hid hz
  clear hz
  go_enter Try.func19, Try.ntmps19
  go_wp2
  go_loopw [7, 8] (fun o i wr => ∃ j : Nat, j ≤ n ∧ i = .int .i64 ((j : Int) - 1) ∧ o = .int .i64 0 ∧ Hid (∃ k, wr = W.drewN k)) (fun _ i _ => (intOf i + 1).toNat)
  case atStart => exact ⟨n, Nat.le_refl _, rfl, rfl, Lib.hid ⟨0, rfl⟩⟩
  case round =>
    obtain ⟨j, hj, rfl, rfl, hw⟩ := hrel
    by_cases h0 : j = 0
    · subst h0
      have e : ((0 : Nat) : Int) - 1 = -1 := by omega
      rw [e]
      clear e
      go_wp2
      go_ret
      obtain ⟨k, rfl⟩ := hw.out
      exact ⟨rfl, k, rfl⟩
    · obtain ⟨p, rfl⟩ : ∃ p, j = p + 1 := ⟨j - 1, by omega⟩
      have e : ((p + 1 : Nat) : Int) - 1 = p := by omega
      rw [e]
      have hzw : Ints wr a0 n zs := by obtain ⟨k, rfl⟩ := hw.out; exact HZ.out.below (below_drewN _ _)
      obtain ⟨g, o, rfl, hg, hcell⟩ := hzw.2 (by omega)
      have hc := hcell p (by omega)
      obtain ⟨c, hce⟩ : ∃ c, c = zs.getD p 0 := ⟨_, rfl⟩
      rw [← hce] at hc
      have q1 : ∀ n, Calls Try.prog 17 #[.pointer none, .int .i64 0, .int .i64 m] (wr.drewN n) _ := fun n => Calls.quiet_of_same (mulNil 0 m _)
      have q2 : ∀ n, Calls Try.prog 17 #[.pointer none, .int .i64 c, .int .i64 1] (wr.drewN n) _ := fun n => Calls.quiet_of_same (mulNil c 1 _)
      have hxo : bits .xor .i64 0 0 = 0 := by decide
      clear hce hcell hzw e
      go_wp2
      go_quiet (first | (with_reducible exact q1 _) | (with_reducible exact q2 _))
      go_wp2
      go_roundw
      case rel =>
        refine ⟨p, by omega, rfl, rfl, Lib.hid ?_⟩
        obtain ⟨k, rfl⟩ := hw.out
        exact ⟨_, drew2 _ _ _⟩
      case measure => first | (simp [intOf]; done) | (simp [intOf]; omega)
end Go.Proofs.Ythponlnklmhbeaa
