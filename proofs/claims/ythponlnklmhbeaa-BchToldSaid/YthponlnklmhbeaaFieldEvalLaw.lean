/- The walk of the law FieldEval. -/
import Derived.Test.YthponlnklmhbeaaFieldEval
set_option linter.unusedVariables false
set_option linter.unusedSimpArgs false
namespace Go.Proofs.Ythponlnklmhbeaa
open Go.ChangeShapes Go.WideShapes Go.ChangeAt Go.RowKit Go.Sort F7
theorem open_row_29 {H : Type} {enc : TypeId × Value → H} {W : World} {base : Nat} {spare : Nat → Bool} {held : Bool} {a : Option Addr} {len cap : Nat} {d : DataW H} {p : List MemPlace}
    (h : DataW.Trod enc Try.prog W base spare held 29 (.slice a len cap) d p) : ∃ zs, Ints W a len zs := by
  obtain ⟨fuel, hf⟩ := h
  rcases open_ints Try.underlying29 Try.underlying3 (by kernel_rfl) hf with ⟨hcs, _⟩ | ⟨x, l, c, zs, hcs, _, hl, hm, hz, _, hcell, _⟩
  · simp [Value.cells] at hcs
    obtain ⟨rfl, rfl, rfl⟩ := hcs
    exact ⟨[], rfl, fun h => by omega⟩
  · simp [Value.cells] at hcs
    obtain ⟨rfl, rfl, rfl⟩ := hcs
    have hlz : len ≤ zs.length := by rw [hz]; split <;> omega
    refine ⟨zs.take len, by simp; omega, fun hp => ?_⟩
    obtain ⟨b, off, rfl, hc⟩ := ints_at hcell (by omega)
    refine ⟨b, off, rfl, World.block_lt_of_cell? W _ (hc 0 (by omega)), fun i hi => ?_⟩
    rw [hc i (by omega)]
    simp [List.getD_eq_getElem?_getD, List.getElem?_take, hi]
def sumF (x : Nat) : List Int → Nat → Nat
  | [], _ => 0
  | c :: zs, k => mul (r7 c) (pow x k) ^^^ sumF x zs (k + 1)
theorem sumF_is (x : Nat) (hx : x < 128) (zs : List Int) : ∀ k, mul (evL zs x) (pow x k) = sumF x zs k := by
  induction zs with
  | nil => intro k; exact zero_mul _
  | cons c zs ih =>
    intro k
    have e : evL (c :: zs) x = mul (evL zs x) x ^^^ r7 c := rfl
    rw [e, xor_mul _ _ _ (pow_lt x k) (mul_lt _ _) (r7_lt c), ← mul_assoc _ _ _ (evL_lt zs x) hx (pow_lt x k), mul_comm x, ← pow_succ x k hx, ih, Nat.xor_comm]
    rfl
theorem sumF_all (x : Nat) (hx : x < 128) (zs : List Int) : sumF x zs 0 = evL zs x := by
  rw [← sumF_is x hx zs 0, pow_zero, mul_one _ (evL_lt zs x)]
theorem sumF_drop (x : Nat) (zs : List Int) (p k : Nat) (h : p < zs.length) : sumF x (zs.drop p) k = mul (r7 (zs.getD p 0)) (pow x k) ^^^ sumF x (zs.drop (p + 1)) (k + 1) := by
  rw [List.drop_eq_getElem_cons h, List.getD_eq_getElem?_getD, List.getElem?_eq_getElem h]
  rfl
set_option maxRecDepth 100000 in
set_option maxHeartbeats 2000000 in
theorem fieldEval_walk (a0 : Option Addr) (n cap : Nat) (zs : List Int) (m : Int) (w : World) (hz : Ints w a0 n zs) (hm : (Lit.int .i64 m).wf = true) :
    Calls Try.prog 8 #[.slice a0 n cap, .int .i64 m] w fun e w' => e = .returned (.bool true) ∧ Below w.heap.size w w' := by
  clear hm
  have hb0 := Below.refl w.heap.size w
  by_cases h60 : n ≤ 60
  · have hx := r7_lt m
    have hpow : ∀ j w, j ≤ 60 → Calls Try.prog 26 #[.int .i64 m, .int .i64 (j : Nat)] w fun e w' => e = .returned (.int .i64 (pow (r7 m) j)) ∧ w' = w := fun j w hj => refPow_is m j (by omega) w
    have hsum := sumF_all (r7 m) hx zs
    have hev : ∀ b W, Fd W b → Below w.heap.size w W → Calls Try.prog 19 #[.pointer (some ⟨b, 0, none⟩), .slice a0 n cap, .int .i64 m] W fun e w' => e = .returned (.int .i64 (evL zs (r7 m))) ∧ ∃ k, w' = W.drewN k := fun b W hF hb => eval_is b a0 n cap zs m W (by omega) hF (hz.below hb)
    have hen : ∀ W, Below w.heap.size w W → Calls Try.prog 19 #[.pointer none, .slice a0 n cap, .int .i64 m] W fun e w' => e = .returned (.int .i64 0) ∧ ∃ k, w' = W.drewN k := fun W hb => evalNil a0 n cap zs m W (by omega) (hz.below hb)
    obtain ⟨x, hxe⟩ : ∃ x, x = r7 m := ⟨_, rfl⟩
    rw [← hxe] at hpow hsum hx hev
    clear hxe
    obtain ⟨R, hR⟩ : ∃ R, R = evL zs x := ⟨_, rfl⟩
    rw [← hR] at hsum hev
    clear hR
    have hlen := hz.1
    have HS := Lib.hid hsum
    have HZ := Lib.hid hz
    clear hsum hz
    go_enter Try.func8, Try.ntmps8
    go_wp2_with (first | (go_at_call 15; (with_reducible refine (on_base (by assumption) (fieldAwake_is _)).mono ?_); rintro e w1 ⟨rfl, hb1⟩))
    go_loopw [5, 6] (fun o i wr => ∃ j s : Nat, j ≤ n ∧ s < 128 ∧ i = .int .i64 j ∧ o = .int .i64 s ∧ Hid (s ^^^ sumF x (zs.drop j) j = R) ∧ Below w.heap.size w wr) (fun _ i _ => n - (intOf i).toNat)
    case atStart => exact ⟨0, 0, Nat.zero_le _, by omega, rfl, rfl, Lib.hid (by rw [Nat.zero_xor, List.drop_zero]; exact HS.out), hb1⟩
    case round =>
      clear hb1 HS
      obtain ⟨j, s, hj, hs, rfl, rfl, hR, hb⟩ := hrel
      by_cases hlt : j < n
      · obtain ⟨g, o, rfl, hg, hcell⟩ := (HZ.out.below hb).2 (by omega)
        have hc := hcell j hlt
        have hnx := sumF_drop x zs j j (by omega)
        obtain ⟨c, hce⟩ : ∃ c, c = zs.getD j 0 := ⟨_, rfl⟩
        rw [← hce] at hc hnx
        have q1 : ∀ n, Calls Try.prog 26 #[.int .i64 m, .int .i64 j] (wr.drewN n) _ := fun n => Calls.quiet_of_same (hpow j _ (by omega))
        have hpl := pow_lt x j
        have q2 : ∀ n, Calls Try.prog 23 #[.int .i64 c, .int .i64 (pow x j : Nat)] (wr.drewN n) fun e w'' => e = .returned (.int .i64 (mul (r7 c) (pow x j))) ∧ ∃ m, w'' = wr.drewN m := fun n => by
          have := refMul_is c (pow x j) (wr.drewN n)
          rw [r7_nat hpl] at this
          exact Calls.quiet_of_same this
        obtain ⟨P, hP⟩ : ∃ P, P = pow x j := ⟨_, rfl⟩
        rw [← hP] at q1 q2 hpl hnx
        obtain ⟨T, hT⟩ : ∃ T, T = mul (r7 c) P := ⟨_, rfl⟩
        have hTl : T < 128 := by rw [hT]; exact mul_lt _ _
        rw [← hT] at q2 hnx
        have hxo := xor_i64 s T (by omega) (by omega)
        have hxl := xor_lt s T hs hTl
        have hst : (s ^^^ T) ^^^ sumF x (zs.drop (j + 1)) (j + 1) = R := by rw [Nat.xor_assoc, ← hnx]; exact hR.out
        obtain ⟨U, hU⟩ : ∃ U, U = s ^^^ T := ⟨_, rfl⟩
        rw [← hU] at hxo hxl hst
        have HST := Lib.hid hst
        clear hst hU hT hP hnx hce hcell hpow hev hen
        go_wp2
        go_quiet (first | (with_reducible exact q1 _) | (with_reducible exact q2 _))
        go_wp2
        go_roundw
        case rel => exact ⟨j + 1, U, by omega, hxl, by go_num, rfl, HST, below_new hb _⟩
        case measure => simp [intOf]; omega
      · obtain rfl : j = n := by omega
        have hsR : s = R := by
          have := hR.out
          rw [List.drop_of_length_le (by omega)] at this
          simpa [sumF] using this
        subst hsR
        have hev' := fun b W hF hb => hev b W hF hb
        have HEV := Lib.hid hev
        have HEN := Lib.hid hen
        clear hev hev' hen hpow hR HZ
        go_wp2_with (first | (go_at_call 16; (with_reducible refine (new_on hb).mono ?_); rintro e W ⟨b, rfl, hF, hbW⟩; have HF := Lib.hid hF; clear hF) | (go_at_call 19; (with_reducible refine (HEV.out _ _ HF.out hbW).mono ?_); rintro e w2 ⟨rfl, k2, rfl⟩) | (go_at_call 17; (with_reducible refine (mulNil _ _ _).mono ?_); rintro e v1 ⟨rfl, hv1⟩; have hv1 := hv1.symm; subst hv1) | (go_at_call 20; (with_reducible refine (expNil _ _).mono ?_); rintro e v1 ⟨rfl, hv1⟩; have hv1 := hv1.symm; subst hv1) | (go_at_call 21; (with_reducible refine (logNil _ _).mono ?_); rintro e v1 ⟨rfl, hv1⟩; have hv1 := hv1.symm; subst hv1) | (go_at_call 22; (with_reducible refine (powNil _ _ _).mono ?_); rintro e v1 ⟨rfl, hv1⟩; have hv1 := hv1.symm; subst hv1) | (go_at_call 19; (with_reducible refine (HEN.out _ (below_new hbW _)).mono ?_); rintro e w3 ⟨rfl, k3, rfl⟩))
        go_ret
        exact ⟨rfl, below_new hbW _⟩
  · go_enter Try.func8, Try.ntmps8
    go_wp2_with (first | (go_at_call 15; (with_reducible refine (on_base hb0 (fieldAwake_is _)).mono ?_); rintro e w1 ⟨rfl, hb1⟩; clear hb0) | (go_at_call 15; (with_reducible refine (on_base hb1 (fieldAwake_is _)).mono ?_); rintro e w2 ⟨rfl, hb2⟩))
    go_ret
    exact ⟨rfl, hb2⟩
end Go.Proofs.Ythponlnklmhbeaa
