/- The walk of the law CrcPlays. -/
import Derived.Test.YthhfogpkaeminaaCrcRefPure
import Derived.Test.YthhfogpkaeminaaCrcBurstPure
import Derived.BigRegion
import Derived.BigQuiet
namespace Go.Proofs.Ythhfogpkaeminaa
open Go.RowKit Go.Sort
theorem seal_tail (x : ByteArray) (hx : 2 ≤ x.size) (h1 : x.size - 2 < x.size) (h2 : x.size - 1 < x.size) :
    sealOf (body x) = x ↔ crcSum (body x) = 256 * ((x[x.size - 2]'h1).toNat : Int) + ((x[x.size - 1]'h2).toNat : Int) := by
  have hlen : (bs x).length = x.size := bs_length x
  obtain ⟨a, ha⟩ : ∃ a, a = (bs x)[x.size - 2]'(by omega) := ⟨_, rfl⟩
  obtain ⟨b, hb⟩ : ∃ b, b = (bs x)[x.size - 1]'(by omega) := ⟨_, rfl⟩
  have hab : a < 256 := by rw [ha]; exact bs_lt x _ (List.getElem_mem _)
  have hbb : b < 256 := by rw [hb]; exact bs_lt x _ (List.getElem_mem _)
  have hsplit : bs x = bs (body x) ++ [a, b] := by
    unfold body
    rw [bs_extract]
    have h1 := List.take_append_drop (x.size - 2) (bs x)
    have h2 : (bs x).drop (x.size - 2) = [a, b] := by
      rw [List.drop_eq_getElem_cons (by omega), ← ha, List.drop_eq_getElem_cons (by omega)]
      have e : x.size - 2 + 1 = x.size - 1 := by omega
      simp only [e, ← hb]
      rw [List.drop_eq_nil_of_le (by omega)]
    rw [h2] at h1
    exact h1.symm
  rw [← bs_get x _ h1, ← bs_get x _ h2, ← ha, ← hb]
  obtain ⟨hr0, hr1⟩ := crcSum_bound (body x)
  constructor
  · intro h
    have h2 := congrArg bs h
    rw [sealOf, bs_append, bs_two _ hr0 hr1, hsplit] at h2
    have h3 := List.append_cancel_left h2
    simp only [List.cons.injEq, and_true] at h3
    omega
  · intro h
    apply bs_inj
    rw [sealOf, bs_append, bs_two _ hr0 hr1]
    conv => rhs; rw [hsplit]
    congr 1
    simp only [List.cons.injEq, and_true]
    omega
theorem wide_eq (s : ByteArray) (h3 : s.size - 2 < s.size) (h4 : s.size - 1 < s.size) (h5 : 2 ≤ s.size) :
    (crcMore 65535 (s.extract 0 (s.size - 2)) != wrap64 (256 * ((s[s.size - 2]'h3).toNat : Int) + wrap64 ((s[s.size - 2 + 1]'(by omega)).toNat : Int))) =
      (crcMore 65535 (s.extract 0 (s.size - 2)) != (256 * ((s[s.size - 2]'h3).toNat : Int) + ((s[s.size - 1]'h4).toNat : Int))) := by
  have h1 := (s[s.size - 2]'h3).toNat_lt
  have h2 := (s[s.size - 1]'h4).toNat_lt
  have e : s.size - 2 + 1 = s.size - 1 := by omega
  simp only [e]
  rw [wrap_small ((s[s.size - 1]'h4).toNat : Int) (by omega) (by omega), wrap_small _ (by omega) (by omega)]
theorem sum_at (s : ByteArray) (hs : s.size ≤ 9223372036854775807) (w : World) :
    Calls Try.prog 16 #[.string s] w fun e w' => e = .returned (.int .i64 (crcMore 65535 s)) ∧ Below w.heap.size w w' := sum_is s hs w
set_option maxRecDepth 100000 in
set_option maxHeartbeats 1000000 in
theorem crcPlays_walk (r : Int) (s : ByteArray) (w : World) (_hr : (Lit.int .i64 r).wf = true) (_hs : s.size ≤ 140737488351232) :
    Calls Try.prog 9 #[.int .i64 r, .string s] w fun e w' => e = .returned (.bool true) ∧ Below w.heap.size w w' := by
  clear _hr _hs
  have hb0 := Below.refl w.heap.size w
  by_cases h1 : s.size ≤ 600
  · by_cases h2 : s.size < 2
    · have open_x : ∀ W, Calls Try.prog 25 #[.string s] W fun e w' => e = .returned (.tuple #[.string ⟨#[]⟩, .int .i64 2]) ∧ Below W.heap.size W w' := fun W => by
        have := open_is s (by omega) W
        rw [show openOf s = (⟨#[]⟩, 2) by unfold openOf; rw [if_pos h2]] at this; exact this
      go_enter Try.func9, Try.ntmps9
      go_wp2_with (first | (go_at_call 14; refine (on_base (by assumption) (awake_is _)).mono ?_; rintro e w1 ⟨rfl, hb1⟩) | (go_at_call 16; refine (on_base (by assumption) (sum_at _ (by omega) _)).mono ?_; rintro e w2 ⟨rfl, hb2⟩) | (go_at_call 15; refine (on_base (by assumption) (more_is _ _ (by omega) _)).mono ?_; rintro e w2 ⟨rfl, hb2⟩) | (go_at_call 26; refine (on_base (by assumption) (refSum_is _ _ (by omega) _)).mono ?_; rintro e w2 ⟨rfl, hb2⟩) | (go_at_call 25; refine (on_base (by assumption) (open_x _)).mono ?_; rintro e w3 ⟨rfl, hb3⟩))
      go_ret
      exact ⟨rfl, by assumption⟩
    · have h3 : s.size - 2 < s.size := by omega
      have h4 : s.size - 1 < s.size := by omega
      have hq := seal_tail s (by omega) h3 h4
      have hlo : 2 ≤ s.size := by omega
      have hlo' : (2 : Int) ≤ (s.size : Int) := by omega
      have hI1 : (s.size : Int) - 2 < (s.size : Int) := by omega
      have hI3 : 0 ≤ (s.size : Int) - 2 + 1 := by omega
      have hI2 : (s.size : Int) - 2 + 1 < (s.size : Int) := by omega
      have hb2 : (s[s.size - 2]'h3).toNat < 256 := (s[s.size - 2]'h3).toNat_lt
      have hb1 : (s[s.size - 1]'h4).toNat < 256 := (s[s.size - 1]'h4).toNat_lt
      by_cases hc : crcSum (body s) = 256 * ((s[s.size - 2]'h3).toNat : Int) + ((s[s.size - 1]'h4).toNat : Int)
      · have open_x : ∀ W, Calls Try.prog 25 #[.string s] W fun e w' => e = .returned (.tuple #[.string (s.extract 0 (s.size - 2)), .int .i64 0]) ∧ Below W.heap.size W w' := fun W => by
          have := open_is s (by omega) W
          rw [show openOf s = (body s, 0) by unfold openOf; rw [if_neg h2, if_pos (hq.2 hc)]] at this; exact this
        have hqc := hq.2 hc
        clear h2 hq
        have seal_x : ∀ W, Calls Try.prog 24 #[.string (s.extract 0 (s.size - 2))] W fun e w' => e = .returned (.string s) ∧ Below W.heap.size W w' := fun W => by
          have := seal_is (s.extract 0 (s.size - 2)) (by simp; omega) W
          rw [show s.extract 0 (s.size - 2) ++ tail (crcSum (s.extract 0 (s.size - 2))) = s from hqc] at this
          exact this
        have heq : (crcMore 65535 (s.extract 0 (s.size - 2)) != (256 * ((s[s.size - 2]'h3).toNat : Int) + ((s[s.size - 1]'h4).toNat : Int))) = false := by
          rw [show crcMore 65535 (s.extract 0 (s.size - 2)) = _ from hc]; exact bne_self_eq_false _
        have HV := (wide_eq s h3 h4 hlo).trans heq
        clear heq
        clear hc hqc
        go_enter Try.func9, Try.ntmps9
        go_wp2_with (first | (go_at_call 14; refine (on_base (by assumption) (awake_is _)).mono ?_; rintro e w1 ⟨rfl, hb1⟩) | (go_at_call 16; refine (on_base (by assumption) (sum_at _ (by omega) _)).mono ?_; rintro e w2 ⟨rfl, hb2⟩) | (go_at_call 15; refine (on_base (by assumption) (more_is _ _ (by omega) _)).mono ?_; rintro e w2 ⟨rfl, hb2⟩) | (go_at_call 26; refine (on_base (by assumption) (refSum_is _ _ (by omega) _)).mono ?_; rintro e w2 ⟨rfl, hb2⟩) | (go_at_call 25; refine (on_base (by assumption) (open_x _)).mono ?_; rintro e w3 ⟨rfl, hb3⟩))
        have cS : ∀ (x : ByteArray) d os, x.size ≤ 600 → Calls Try.prog 26 #[.int .i64 65535, .string x] (grow (redrawn w3 d) os) fun e w'' => e = .returned (.int .i64 (crcMore 65535 x)) ∧ ∃ p : Regrown, w'' = grow (redrawn w3 p.d) p.os :=
          fun x d os hx => Calls.regrown_of (refSum_is 65535 x (by omega) _)
        refine wp_region_quiet_below (by kernel_rfl) (by kernel_rfl) ?_
        repeat (go_big_quiet_step (exact cS _ _ _ (by simp; omega)))
        refine wpQuiet_nil ?_
        intro _ hw'
        obtain ⟨⟨dq, osq⟩, hw''⟩ := hw'
        subst hw''
        have hbq : Below w.heap.size w (grow (redrawn w3 dq) osq) := hb3.trans ((below_regrown w3 dq osq).mono hb3.size)
        go_wp2_with (go_at_call 24; refine (on_base (by assumption) (seal_x _)).mono ?_; rintro e w4 ⟨rfl, hb4⟩)
        go_ret
        exact ⟨rfl, by assumption⟩
      · have open_x : ∀ W, Calls Try.prog 25 #[.string s] W fun e w' => e = .returned (.tuple #[.string ⟨#[]⟩, .int .i64 4]) ∧ Below W.heap.size W w' := fun W => by
          have := open_is s (by omega) W
          rw [show openOf s = (⟨#[]⟩, 4) by unfold openOf; rw [if_neg h2, if_neg (fun h => hc (hq.1 h))]] at this; exact this
        have HV := wide_eq s h3 h4 hlo
        have hne : (crcMore 65535 (s.extract 0 (s.size - 2)) != (256 * ((s[s.size - 2]'h3).toNat : Int) + ((s[s.size - 1]'h4).toNat : Int))) = true := by
          rw [bne_iff_ne]; exact hc
        rw [hne] at HV
        clear hc h2 hq hne
        go_enter Try.func9, Try.ntmps9
        go_wp2_with (first | (go_at_call 14; refine (on_base (by assumption) (awake_is _)).mono ?_; rintro e w1 ⟨rfl, hb1⟩) | (go_at_call 16; refine (on_base (by assumption) (sum_at _ (by omega) _)).mono ?_; rintro e w2 ⟨rfl, hb2⟩) | (go_at_call 15; refine (on_base (by assumption) (more_is _ _ (by omega) _)).mono ?_; rintro e w2 ⟨rfl, hb2⟩) | (go_at_call 26; refine (on_base (by assumption) (refSum_is _ _ (by omega) _)).mono ?_; rintro e w2 ⟨rfl, hb2⟩) | (go_at_call 25; refine (on_base (by assumption) (open_x _)).mono ?_; rintro e w3 ⟨rfl, hb3⟩))
        have cS : ∀ (x : ByteArray) d os, x.size ≤ 600 → Calls Try.prog 26 #[.int .i64 65535, .string x] (grow (redrawn w3 d) os) fun e w'' => e = .returned (.int .i64 (crcMore 65535 x)) ∧ ∃ p : Regrown, w'' = grow (redrawn w3 p.d) p.os :=
          fun x d os hx => Calls.regrown_of (refSum_is 65535 x (by omega) _)
        refine wp_region_quiet_below (by kernel_rfl) (by kernel_rfl) ?_
        repeat (go_big_quiet_step (exact cS _ _ _ (by simp; omega)))
        refine wpQuiet_nil ?_
        intro _ hw'
        obtain ⟨⟨dq, osq⟩, hw''⟩ := hw'
        subst hw''
        have hbq : Below w.heap.size w (grow (redrawn w3 dq) osq) := hb3.trans ((below_regrown w3 dq osq).mono hb3.size)
        go_wp2
        go_ret
        exact ⟨rfl, by assumption⟩
  · go_enter Try.func9, Try.ntmps9
    go_wp2_with (go_at_call 14; refine (on_base (by assumption) (awake_is _)).mono ?_; rintro e w1 ⟨rfl, hb1⟩)
    go_ret
    exact ⟨rfl, by assumption⟩
end Go.Proofs.Ythhfogpkaeminaa
