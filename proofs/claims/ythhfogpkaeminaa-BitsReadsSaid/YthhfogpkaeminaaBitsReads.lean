/- The walk of the law BitsReads. -/
import Derived.Test.YthhfogpkaeminaaBitsAll
namespace Go.Proofs.Ythhfogpkaeminaa
open Go.RowKit Go.Sort
/-- A slice of numbers that is read. -/
def Ints (w : World) (a : Option Addr) (n : Nat) (zs : List Int) : Prop :=
  zs.length = n ∧ (0 < n → ∃ b o, a = some ⟨b, o, none⟩ ∧ b < w.heap.size ∧ ∀ i, i < n → w.cell? ⟨b, o + i, none⟩ = some (.int .i64 (zs.getD i 0)))
/-- Are the places from p to q all zero? -/
def zeroTo (L : List Bool) (p q : Nat) : Bool := ((L.drop p).take (q - p)).all (fun b => !b)
theorem zeroTo_succ (L : List Bool) (p q : Nat) (hpq : p ≤ q) (hq : q < L.length) : zeroTo L p (q + 1) = (zeroTo L p q && !L.getD q false) := by
  unfold zeroTo
  rw [show q + 1 - p = (q - p) + 1 by omega, drop_take_succ L p (q - p) (by omega), List.all_append, show p + (q - p) = q by omega]
  simp
theorem zeroTo_all (L : List Bool) (p : Nat) : zeroTo L p L.length = zerosOf L p := by
  unfold zeroTo zerosOf
  rw [List.take_of_length_le (by rw [List.length_drop]; omega)]
theorem getOf_le (L : List Bool) (p : Nat) (n : Int) (h : p ≤ L.length) : (getOf L p n).2.2 ≤ L.length := by
  unfold getOf
  split
  · exact h
  · split
    · exact h
    · simp only []; omega
/-- What the law's loop knows. -/
structure RState (w w' : World) (b g c : Nat) (s : ByteArray) (p : Nat) : Prop where
  rd : Rd w' b s p
  own : Own w' 3 .i64 (.slice (some ⟨g, 0, none⟩) (8 * s.size) c) (bools (textBits s))
  below : Below w.heap.size w w'
  base : w.heap.size ≤ b ∧ b ≠ g
theorem RState.cell {w w' : World} {b g c : Nat} {s : ByteArray} {p : Nat} (h : RState w w' b g c s p) (j : Nat) (hj : j < 8 * s.size) : w'.cell? ⟨g, j, none⟩ = some (.int .i64 (b2i ((textBits s).getD j false))) := by
  have hl : (bools (textBits s)).length = 8 * s.size := by rw [bools_length, textBits_length]
  rw [← bools_getD]
  exact (show Own w' 3 .i64 (.slice (some ⟨g, 0, none⟩) (bools (textBits s)).length c) (bools (textBits s)) by rw [hl]; exact h.own).at_ j (by omega)
theorem RState.step {w w1 w2 : World} {b g c : Nat} {s : ByteArray} {p q : Nat} (h : RState w w1 b g c s p) (hR : Rd w2 b s q) (hk : Keep w1 w2 [b]) : RState w w2 b g c s q :=
  ⟨hR, h.own.keep hk (by intro j hj; rw [foot_slice] at hj; simp only [List.mem_singleton] at hj; subst hj; simpa using fun e => h.base.2 e.symm), hk.below h.below (by simpa using h.base.1), h.base⟩
theorem RState.keep {w w1 w2 : World} {b g c : Nat} {s : ByteArray} {p : Nat} (h : RState w w1 b g c s p) (hk : Keep w1 w2 []) : RState w w2 b g c s p := h.step (h.rd.keep hk (by simp)) (hk.mono (by simp))
theorem get_state {w w1 : World} {b g c : Nat} {s : ByteArray} {p : Nat} (hs : s.size ≤ 100000) (h : RState w w1 b g c s p) (n : Int) :
    Calls Try.prog 27 #[.pointer (some ⟨b, 0, none⟩), .int .i64 n] w1 fun e w' => e = .returned (.tuple #[.int .i64 ((getOf (textBits s) p n).1 : Nat), .int .i64 (getOf (textBits s) p n).2.1]) ∧ Hid (RState w w' b g c s (getOf (textBits s) p n).2.2) :=
  (get_is s p n hs b w1 h.rd).mono fun _ _ ⟨h1, h2, h3⟩ => ⟨h1, h.step h2 h3⟩
theorem left_state {w w1 : World} {b g c : Nat} {s : ByteArray} {p : Nat} (hs : s.size ≤ 100000) (h : RState w w1 b g c s p) :
    Calls Try.prog 28 #[.pointer (some ⟨b, 0, none⟩)] w1 fun e w' => e = .returned (.int .i64 (8 * (s.size : Int) - p)) ∧ Hid (RState w w' b g c s p) :=
  (left_is s p hs b w1 h.rd).mono fun _ _ ⟨h1, h2⟩ => ⟨h1, h.keep h2⟩
theorem zeros_state {w w1 : World} {b g c : Nat} {s : ByteArray} {p : Nat} (hs : s.size ≤ 100000) (h : RState w w1 b g c s p) :
    Calls Try.prog 29 #[.pointer (some ⟨b, 0, none⟩)] w1 fun e w' => e = .returned (.bool (zerosOf (textBits s) p)) ∧ Hid (RState w w' b g c s p) :=
  (zeros_is s p hs b w1 h.rd).mono fun _ _ ⟨h1, h2⟩ => ⟨h1, h.keep (Keep.of_below h2 [])⟩
theorem own_cap {w : World} {e : TypeId} {k : IntKind} {g n cap : Nat} {xs : List Int} (h : Own w e k (.slice (some ⟨g, 0, none⟩) n cap) xs) : xs.length ≤ cap ∧ n = xs.length := by
  rcases h.2 with ⟨h', _⟩ | ⟨g', cap', cur, h', _, _, hc, _⟩
  · cases h'
  · injection h' with _ h2 h3
    exact ⟨by omega, h2⟩
set_option maxRecDepth 100000 in
set_option maxHeartbeats 4000000 in
theorem bitsReads_walk (s : ByteArray) (a1 : Option Addr) (n cap : Nat) (zs : List Int) (w : World) (_hs : s.size ≤ 140737488351232) (hz : Ints w a1 n zs) :
    Calls Try.prog 12 #[.string s, .slice a1 n cap] w fun e w' => e = .returned (.bool true) ∧ Below w.heap.size w w' := by
  clear _hs
  have hb0 := Below.refl w.heap.size w
  by_cases h60 : s.size ≤ 300 ∧ n ≤ 60
  · obtain ⟨h300, h60⟩ := h60
    by_cases hs0 : s.size = 0
    · have hL : textBits s = [] := by
        apply List.eq_nil_of_length_eq_zero
        rw [textBits_length]; omega
      have hzt : zerosOf (textBits s) 0 = true := by rw [hL]; rfl
      have hsz : (s.size : Int) = 0 := by omega
      go_enter Try.func12, Try.ntmps12
      go_wp2_with (first | (go_at_call 17; (with_reducible refine (on_base (by assumption) (bitsAwake_is _)).mono ?_); rintro e w1 ⟨rfl, hb1⟩) | (go_at_call 30; (with_reducible refine (new_is _ _).mono ?_); rintro e w2 ⟨rfl, hR2, hb2⟩) | (go_at_call 31; (with_reducible refine (all_is s (by omega) _).mono ?_); rintro e w3 ⟨v3, rfl, _, hb3, _, hnil⟩; obtain rfl := hnil hs0))
      obtain ⟨b, hbe⟩ : ∃ b, b = w1.heap.size := ⟨_, rfl⟩
      have hB2 : Below w.heap.size w w2 := hb1.trans (hb2.mono hb1.size)
      have hR3 : Rd w3 b s 0 := by rw [hbe]; exact hR2.keep (Keep.of_below hb3 []) (by simp)
      have hB3 : Below w.heap.size w w3 := hB2.trans (hb3.mono hB2.size)
      have hbw : w.heap.size ≤ b := by rw [hbe]; exact hb1.size
      have hz0 : 8 * (s.size : Int) - ((0 : Nat) : Int) = 0 := by omega
      rw [← hbe]
      clear hbe hb1 hb2 hb3 hR2 hB2
      go_loopw [7, 8] (fun at_ i wr => ∃ k : Nat, k ≤ n ∧ i = .int .i64 k ∧ at_ = .int .i64 0 ∧ Rd wr b s 0 ∧ Below w.heap.size w wr) (fun _ i _ => n - (intOf i).toNat)
      case atStart => exact ⟨0, Nat.zero_le _, rfl, rfl, hR3, hB3⟩
      case round =>
        clear hR3 hB3
        obtain ⟨k, hk, rfl, rfl, hR, hb⟩ := hrel
        by_cases hlt : k < n
        · obtain ⟨zl, hzc⟩ := hz
          obtain ⟨ga, o, rfl, hg, hcell⟩ := hzc (by omega)
          obtain ⟨x, hx⟩ : ∃ x, x = zs.getD k 0 := ⟨_, rfl⟩
          have hcw := hcell k hlt
          rw [← hx] at hcw
          have HCX : Hid (∀ (W : World), Below w.heap.size w W → W.cell? ⟨ga, o + k, none⟩ = some (.int .i64 x)) := fun W h => (h.cell (p := ⟨ga, o + k, none⟩) hg).trans hcw
          have hc0 := HCX.out _ hb
          have hget := get_is s 0 x (by omega) b wr hR
          rw [hL] at hget
          clear hcell hcw hx hR
          rcases (show x < 0 ∨ (0 ≤ x ∧ 56 < x) ∨ (0 < x ∧ x ≤ 56) ∨ x = 0 by omega) with h1 | ⟨h1, h2⟩ | ⟨h1, h2⟩ | h1
          · have he : getOf [] 0 x = (0, 1, 0) := by unfold getOf; rw [if_pos (by omega)]
            rw [he] at hget
            clear he
            go_wp2_with (first | (go_at_call 27; (with_reducible refine hget.mono ?_); rintro e w4 ⟨rfl, hR4, hK4⟩; have hc4 := HCX.out _ (hK4.below hb (by simpa using hbw)); have hb4 := hK4.below hb (by simpa using hbw)))
            obtain ⟨wo, rfl⟩ : ∃ wo : World, wo = w4 := ⟨_, rfl⟩
            refine wp_loop_rounds 1 ?_
            rw [rounds_succ]
            have hleft := left_is s 0 (by omega) b wo hR4
            rw [hz0] at hleft
            have hzero : ∀ W, Keep wo W [] → Calls Try.prog 29 #[.pointer (some ⟨b, 0, none⟩)] W fun e w' => e = .returned (.bool true) ∧ Keep W w' [] := fun W hW => by
              have := zeros_is s 0 (by omega) b W (hR4.keep hW (by simp))
              rw [hzt] at this; exact this.mono fun _ _ ⟨h1, h2⟩ => ⟨h1, Keep.of_below h2 []⟩
            go_wp2_with (first | (go_at_call 28; (with_reducible refine hleft.mono ?_); rintro e w5 ⟨rfl, hk5⟩) | (go_at_call 29; (with_reducible refine (hzero _ hk5).mono ?_); rintro e w6 ⟨rfl, hk6⟩))
            go_roundw
            case rel => exact ⟨k + 1, by omega, by go_num, rfl, (hR4.keep hk5 (by simp)).keep hk6 (by simp), hk6.below (hk5.below hb4 (by simp)) (by simp)⟩
            case measure => simp [intOf]; omega
          · have he : getOf [] 0 x = (0, 1, 0) := by unfold getOf; rw [if_pos (by omega)]
            rw [he] at hget
            have h0 : ¬ x < 0 := by omega
            clear he h1
            go_wp2_with (first | (go_at_call 27; (with_reducible refine hget.mono ?_); rintro e w4 ⟨rfl, hR4, hK4⟩; have hc4 := HCX.out _ (hK4.below hb (by simpa using hbw)); have hb4 := hK4.below hb (by simpa using hbw)))
            obtain ⟨wo, rfl⟩ : ∃ wo : World, wo = w4 := ⟨_, rfl⟩
            refine wp_loop_rounds 1 ?_
            rw [rounds_succ]
            have hleft := left_is s 0 (by omega) b wo hR4
            rw [hz0] at hleft
            have hzero : ∀ W, Keep wo W [] → Calls Try.prog 29 #[.pointer (some ⟨b, 0, none⟩)] W fun e w' => e = .returned (.bool true) ∧ Keep W w' [] := fun W hW => by
              have := zeros_is s 0 (by omega) b W (hR4.keep hW (by simp))
              rw [hzt] at this; exact this.mono fun _ _ ⟨h1, h2⟩ => ⟨h1, Keep.of_below h2 []⟩
            go_wp2_with (first | (go_at_call 28; (with_reducible refine hleft.mono ?_); rintro e w5 ⟨rfl, hk5⟩) | (go_at_call 29; (with_reducible refine (hzero _ hk5).mono ?_); rintro e w6 ⟨rfl, hk6⟩))
            go_roundw
            case rel => exact ⟨k + 1, by omega, by go_num, rfl, (hR4.keep hk5 (by simp)).keep hk6 (by simp), hk6.below (hk5.below hb4 (by simp)) (by simp)⟩
            case measure => simp [intOf]; omega
          · have he : getOf [] 0 x = (0, 2, 0) := by unfold getOf; rw [if_neg (by omega), if_pos (by simpa using h1)]
            rw [he] at hget
            have h0 : ¬ x < 0 := by omega
            clear he
            go_wp2_with (first | (go_at_call 27; (with_reducible refine hget.mono ?_); rintro e w4 ⟨rfl, hR4, hK4⟩; have hc4 := HCX.out _ (hK4.below hb (by simpa using hbw)); have hb4 := hK4.below hb (by simpa using hbw)))
            obtain ⟨wo, rfl⟩ : ∃ wo : World, wo = w4 := ⟨_, rfl⟩
            refine wp_loop_rounds 1 ?_
            rw [rounds_succ]
            have hleft := left_is s 0 (by omega) b wo hR4
            rw [hz0] at hleft
            have hzero : ∀ W, Keep wo W [] → Calls Try.prog 29 #[.pointer (some ⟨b, 0, none⟩)] W fun e w' => e = .returned (.bool true) ∧ Keep W w' [] := fun W hW => by
              have := zeros_is s 0 (by omega) b W (hR4.keep hW (by simp))
              rw [hzt] at this; exact this.mono fun _ _ ⟨h1, h2⟩ => ⟨h1, Keep.of_below h2 []⟩
            go_wp2_with (first | (go_at_call 28; (with_reducible refine hleft.mono ?_); rintro e w5 ⟨rfl, hk5⟩) | (go_at_call 29; (with_reducible refine (hzero _ hk5).mono ?_); rintro e w6 ⟨rfl, hk6⟩))
            go_roundw
            case rel => exact ⟨k + 1, by omega, by go_num, rfl, (hR4.keep hk5 (by simp)).keep hk6 (by simp), hk6.below (hk5.below hb4 (by simp)) (by simp)⟩
            case measure => simp [intOf]; omega
          · subst h1
            have he : getOf [] 0 0 = (0, 0, 0) := by decide
            rw [he] at hget
            clear he
            go_wp2_with (first | (go_at_call 27; (with_reducible refine hget.mono ?_); rintro e w4 ⟨rfl, hR4, hK4⟩; have hc4 := HCX.out _ (hK4.below hb (by simpa using hbw)); have hb4 := hK4.below hb (by simpa using hbw)) | (go_at_call 32; (with_reducible refine (number_is [] 0 0 (by omega) (by simp) 0 _ _ _ (fun h => absurd h (by omega)) (fun j hj => absurd hj (by simp))).mono ?_); rintro e w' ⟨rfl, rfl⟩))
            obtain ⟨wo, rfl⟩ : ∃ wo : World, wo = w4 := ⟨_, rfl⟩
            refine wp_loop_rounds 1 ?_
            rw [rounds_succ]
            have hleft := left_is s 0 (by omega) b wo hR4
            rw [hz0] at hleft
            have hzero : ∀ W, Keep wo W [] → Calls Try.prog 29 #[.pointer (some ⟨b, 0, none⟩)] W fun e w' => e = .returned (.bool true) ∧ Keep W w' [] := fun W hW => by
              have := zeros_is s 0 (by omega) b W (hR4.keep hW (by simp))
              rw [hzt] at this; exact this.mono fun _ _ ⟨h1, h2⟩ => ⟨h1, Keep.of_below h2 []⟩
            go_wp2_with (first | (go_at_call 28; (with_reducible refine hleft.mono ?_); rintro e w5 ⟨rfl, hk5⟩) | (go_at_call 29; (with_reducible refine (hzero _ hk5).mono ?_); rintro e w6 ⟨rfl, hk6⟩))
            go_roundw
            case rel => first | exact ⟨k + 1, by omega, by go_num, rfl, (hR4.keep hk5 (by simp)).keep hk6 (by simp), hk6.below (hk5.below hb4 (by simp)) (by simp)⟩ | ((repeat apply Exists.intro); exact ⟨⟨k + 1, by omega, by go_num, rfl, (hR4.keep hk5 (by simp)).keep hk6 (by simp), hk6.below (hk5.below hb4 (by simp)) (by simp)⟩, rfl⟩)
            case measure => simp [intOf]; omega
        · obtain rfl : k = n := by omega
          go_wp2
          go_ret
          exact ⟨rfl, hb⟩
    · go_enter Try.func12, Try.ntmps12
      go_wp2_with (first | (go_at_call 17; (with_reducible refine (on_base (by assumption) (bitsAwake_is _)).mono ?_); rintro e w1 ⟨rfl, hb1⟩) | (go_at_call 30; (with_reducible refine (new_is _ _).mono ?_); rintro e w2 ⟨rfl, hR2, hb2⟩) | (go_at_call 31; (with_reducible refine (all_is s (by omega) _).mono ?_); rintro e w3 ⟨v3, rfl, hO3, hb3, hF3, _⟩))
      obtain ⟨b, hbe⟩ : ∃ b, b = w1.heap.size := ⟨_, rfl⟩
      have hl : (bools (textBits s)).length = 8 * s.size := by rw [bools_length, textBits_length]
      obtain ⟨g, c, hv⟩ := hO3.form (by rw [hl]; omega)
      rw [hl] at hv
      have hS0 : RState w w3 b g c s 0 := by
        have hB2 : Below w.heap.size w w2 := hb1.trans (hb2.mono hb1.size)
        have hR3 : Rd w3 b s 0 := by rw [hbe]; exact hR2.keep (Keep.of_below hb3 []) (by simp)
        refine ⟨hR3, by rw [← hv]; exact hO3, hB2.trans (hb3.mono hB2.size), by rw [hbe]; exact hb1.size, fun e => ?_⟩
        have hg := hF3 g (by rw [hv]; simp [foot, Value.ownBlock])
        have := hR2.lt
        omega
      rw [hv, ← hbe]
      clear hbe hb1 hb2 hb3 hR2 hO3 hF3 hv hl
      go_loopw [7, 8] (fun at_ i wr => ∃ k p : Nat, k ≤ n ∧ i = .int .i64 k ∧ at_ = .int .i64 p ∧ Hid (RState w wr b g c s p)) (fun _ i _ => n - (intOf i).toNat)
      case atStart => exact ⟨0, 0, Nat.zero_le _, rfl, rfl, hS0⟩
      case round =>
        clear hS0
        obtain ⟨k, p, hk, rfl, rfl, hS⟩ := hrel
        by_cases hlt : k < n
        · obtain ⟨zl, hzc⟩ := hz
          obtain ⟨ga, o, rfl, hg, hcell⟩ := hzc (by omega)
          obtain ⟨x, hx⟩ : ∃ x, x = zs.getD k 0 := ⟨_, rfl⟩
          have hcw := hcell k hlt
          rw [← hx] at hcw
          have HCX : Hid (∀ (W : World) (q : Nat), Hid (RState w W b g c s q) → W.cell? ⟨ga, o + k, none⟩ = some (.int .i64 x)) := fun W q h => (h.out.below.cell (p := ⟨ga, o + k, none⟩) hg).trans hcw
          have hc0 := HCX.out _ _ hS
          have hp := hS.out.rd.2
          have hget := get_state (by omega) hS.out x
          have hlen := textBits_length s
          clear hcell hcw hx
          rcases (show x < 0 ∨ (0 ≤ x ∧ 56 < x) ∨ (0 ≤ x ∧ x ≤ 56 ∧ ((8 * s.size - p : Nat) : Int) < x) ∨ (0 ≤ x ∧ x ≤ 56 ∧ x ≤ ((8 * s.size - p : Nat) : Int)) by omega) with h1 | ⟨h1, h2⟩ | ⟨h1, h2, h3⟩ | ⟨h1, h2, h3⟩
          · have he : getOf (textBits s) p x = (0, 1, p) := by unfold getOf; rw [if_pos (by omega)]
            rw [he] at hget
            clear he
            go_wp2_with (first | (go_at_call 27; (with_reducible refine hget.mono ?_); rintro e w4 ⟨rfl, hS4⟩; have hc4 := HCX.out _ _ hS4))
            obtain ⟨wo, rfl⟩ : ∃ wo : World, wo = w4 := ⟨_, rfl⟩
            have hcell4 := Lib.hid hS4.out.cell
            go_loop [13, 14] (fun z q => ∃ j : Nat, p ≤ j ∧ j ≤ 8 * s.size ∧ q = .int .i64 j ∧ z = .bool (zeroTo (textBits s) p j)) (fun _ q => 8 * s.size - (intOf q).toNat)
            case atStart => exact ⟨p, Nat.le_refl _, by omega, by go_num, by simp [zeroTo]⟩
            case round =>
              obtain ⟨j, hj1, hj2, rfl, rfl⟩ := hrel
              by_cases hjl : j < 8 * s.size
              · have hcj := hcell4.out j hjl
                have hzs := zeroTo_succ (textBits s) p j hj1 (by rw [hlen]; exact hjl)
                cases hbit : (textBits s).getD j false with
                | false =>
                  rw [hbit] at hzs hcj
                  rw [show b2i false = 0 from rfl] at hcj
                  cases hzz : zeroTo (textBits s) p j with
                  | true =>
                    rw [hzz] at hzs
                    have HZ := Lib.hid hzs
                    clear hzs hbit hlen hzz
                    go_wp2
                    go_round
                    case rel => exact ⟨j + 1, by omega, by omega, by go_num, by rw [HZ.out]; rfl⟩
                    case measure => simp [intOf]; omega
                  | false =>
                    rw [hzz] at hzs
                    have HZ := Lib.hid hzs
                    clear hzs hbit hlen hzz hcj
                    go_wp2
                    go_round
                    case rel => exact ⟨j + 1, by omega, by omega, by go_num, by rw [HZ.out]; rfl⟩
                    case measure => simp [intOf]; omega
                | true =>
                  rw [hbit] at hzs hcj
                  rw [show b2i true = 1 from rfl] at hcj
                  cases hzz : zeroTo (textBits s) p j with
                  | true =>
                    rw [hzz] at hzs
                    have HZ := Lib.hid hzs
                    clear hzs hbit hlen hzz
                    go_wp2
                    go_round
                    case rel => exact ⟨j + 1, by omega, by omega, by go_num, by rw [HZ.out]; rfl⟩
                    case measure => simp [intOf]; omega
                  | false =>
                    rw [hzz] at hzs
                    have HZ := Lib.hid hzs
                    clear hzs hbit hlen hzz hcj
                    go_wp2
                    go_round
                    case rel => exact ⟨j + 1, by omega, by omega, by go_num, by rw [HZ.out]; rfl⟩
                    case measure => simp [intOf]; omega
              · obtain rfl : j = 8 * s.size := by omega
                have hzl : zeroTo (textBits s) p (8 * s.size) = zerosOf (textBits s) p := by rw [← hlen]; exact zeroTo_all _ _
                rw [hzl]
                have hleft := left_state (by omega) hS4.out
                have hzero := fun {W : World} (h : Hid (RState w W b g c s (p))) => zeros_state (by omega) h.out
                clear hzl hlen
                go_wp2_with (first | (go_at_call 28; (with_reducible refine hleft.mono ?_); rintro e w5 ⟨rfl, hS5⟩) | (go_at_call 29; (with_reducible refine (hzero hS5).mono ?_); rintro e w6 ⟨rfl, hS6⟩))
                go_roundw
                case rel => exact ⟨k + 1, p, by omega, by go_num, by go_num, hS6⟩
                case measure => simp [intOf]; omega
          · have he : getOf (textBits s) p x = (0, 1, p) := by unfold getOf; rw [if_pos (by omega)]
            rw [he] at hget
            have h0 : ¬ x < 0 := by omega
            clear he h1
            go_wp2_with (first | (go_at_call 27; (with_reducible refine hget.mono ?_); rintro e w4 ⟨rfl, hS4⟩; have hc4 := HCX.out _ _ hS4))
            obtain ⟨wo, rfl⟩ : ∃ wo : World, wo = w4 := ⟨_, rfl⟩
            have hcell4 := Lib.hid hS4.out.cell
            go_loop [13, 14] (fun z q => ∃ j : Nat, p ≤ j ∧ j ≤ 8 * s.size ∧ q = .int .i64 j ∧ z = .bool (zeroTo (textBits s) p j)) (fun _ q => 8 * s.size - (intOf q).toNat)
            case atStart => exact ⟨p, Nat.le_refl _, by omega, by go_num, by simp [zeroTo]⟩
            case round =>
              obtain ⟨j, hj1, hj2, rfl, rfl⟩ := hrel
              by_cases hjl : j < 8 * s.size
              · have hcj := hcell4.out j hjl
                have hzs := zeroTo_succ (textBits s) p j hj1 (by rw [hlen]; exact hjl)
                cases hbit : (textBits s).getD j false with
                | false =>
                  rw [hbit] at hzs hcj
                  rw [show b2i false = 0 from rfl] at hcj
                  cases hzz : zeroTo (textBits s) p j with
                  | true =>
                    rw [hzz] at hzs
                    have HZ := Lib.hid hzs
                    clear hzs hbit hlen hzz
                    go_wp2
                    go_round
                    case rel => exact ⟨j + 1, by omega, by omega, by go_num, by rw [HZ.out]; rfl⟩
                    case measure => simp [intOf]; omega
                  | false =>
                    rw [hzz] at hzs
                    have HZ := Lib.hid hzs
                    clear hzs hbit hlen hzz hcj
                    go_wp2
                    go_round
                    case rel => exact ⟨j + 1, by omega, by omega, by go_num, by rw [HZ.out]; rfl⟩
                    case measure => simp [intOf]; omega
                | true =>
                  rw [hbit] at hzs hcj
                  rw [show b2i true = 1 from rfl] at hcj
                  cases hzz : zeroTo (textBits s) p j with
                  | true =>
                    rw [hzz] at hzs
                    have HZ := Lib.hid hzs
                    clear hzs hbit hlen hzz
                    go_wp2
                    go_round
                    case rel => exact ⟨j + 1, by omega, by omega, by go_num, by rw [HZ.out]; rfl⟩
                    case measure => simp [intOf]; omega
                  | false =>
                    rw [hzz] at hzs
                    have HZ := Lib.hid hzs
                    clear hzs hbit hlen hzz hcj
                    go_wp2
                    go_round
                    case rel => exact ⟨j + 1, by omega, by omega, by go_num, by rw [HZ.out]; rfl⟩
                    case measure => simp [intOf]; omega
              · obtain rfl : j = 8 * s.size := by omega
                have hzl : zeroTo (textBits s) p (8 * s.size) = zerosOf (textBits s) p := by rw [← hlen]; exact zeroTo_all _ _
                rw [hzl]
                have hleft := left_state (by omega) hS4.out
                have hzero := fun {W : World} (h : Hid (RState w W b g c s (p))) => zeros_state (by omega) h.out
                clear hzl hlen
                go_wp2_with (first | (go_at_call 28; (with_reducible refine hleft.mono ?_); rintro e w5 ⟨rfl, hS5⟩) | (go_at_call 29; (with_reducible refine (hzero hS5).mono ?_); rintro e w6 ⟨rfl, hS6⟩))
                go_roundw
                case rel => exact ⟨k + 1, p, by omega, by go_num, by go_num, hS6⟩
                case measure => simp [intOf]; omega
          · have he : getOf (textBits s) p x = (0, 2, p) := by unfold getOf; rw [if_neg (by omega), if_pos (by rw [hlen]; exact h3)]
            rw [he] at hget
            have h0 : ¬ x < 0 := by omega
            have h4 : 8 * (s.size : Int) - p < x := by omega
            clear he h1 h3
            go_wp2_with (first | (go_at_call 27; (with_reducible refine hget.mono ?_); rintro e w4 ⟨rfl, hS4⟩; have hc4 := HCX.out _ _ hS4))
            obtain ⟨wo, rfl⟩ : ∃ wo : World, wo = w4 := ⟨_, rfl⟩
            have hcell4 := Lib.hid hS4.out.cell
            go_loop [13, 14] (fun z q => ∃ j : Nat, p ≤ j ∧ j ≤ 8 * s.size ∧ q = .int .i64 j ∧ z = .bool (zeroTo (textBits s) p j)) (fun _ q => 8 * s.size - (intOf q).toNat)
            case atStart => exact ⟨p, Nat.le_refl _, by omega, by go_num, by simp [zeroTo]⟩
            case round =>
              obtain ⟨j, hj1, hj2, rfl, rfl⟩ := hrel
              by_cases hjl : j < 8 * s.size
              · have hcj := hcell4.out j hjl
                have hzs := zeroTo_succ (textBits s) p j hj1 (by rw [hlen]; exact hjl)
                cases hbit : (textBits s).getD j false with
                | false =>
                  rw [hbit] at hzs hcj
                  rw [show b2i false = 0 from rfl] at hcj
                  cases hzz : zeroTo (textBits s) p j with
                  | true =>
                    rw [hzz] at hzs
                    have HZ := Lib.hid hzs
                    clear hzs hbit hlen hzz
                    go_wp2
                    go_round
                    case rel => exact ⟨j + 1, by omega, by omega, by go_num, by rw [HZ.out]; rfl⟩
                    case measure => simp [intOf]; omega
                  | false =>
                    rw [hzz] at hzs
                    have HZ := Lib.hid hzs
                    clear hzs hbit hlen hzz hcj
                    go_wp2
                    go_round
                    case rel => exact ⟨j + 1, by omega, by omega, by go_num, by rw [HZ.out]; rfl⟩
                    case measure => simp [intOf]; omega
                | true =>
                  rw [hbit] at hzs hcj
                  rw [show b2i true = 1 from rfl] at hcj
                  cases hzz : zeroTo (textBits s) p j with
                  | true =>
                    rw [hzz] at hzs
                    have HZ := Lib.hid hzs
                    clear hzs hbit hlen hzz
                    go_wp2
                    go_round
                    case rel => exact ⟨j + 1, by omega, by omega, by go_num, by rw [HZ.out]; rfl⟩
                    case measure => simp [intOf]; omega
                  | false =>
                    rw [hzz] at hzs
                    have HZ := Lib.hid hzs
                    clear hzs hbit hlen hzz hcj
                    go_wp2
                    go_round
                    case rel => exact ⟨j + 1, by omega, by omega, by go_num, by rw [HZ.out]; rfl⟩
                    case measure => simp [intOf]; omega
              · obtain rfl : j = 8 * s.size := by omega
                have hzl : zeroTo (textBits s) p (8 * s.size) = zerosOf (textBits s) p := by rw [← hlen]; exact zeroTo_all _ _
                rw [hzl]
                have hleft := left_state (by omega) hS4.out
                have hzero := fun {W : World} (h : Hid (RState w W b g c s (p))) => zeros_state (by omega) h.out
                clear hzl hlen
                go_wp2_with (first | (go_at_call 28; (with_reducible refine hleft.mono ?_); rintro e w5 ⟨rfl, hS5⟩) | (go_at_call 29; (with_reducible refine (hzero hS5).mono ?_); rintro e w6 ⟨rfl, hS6⟩))
                go_roundw
                case rel => exact ⟨k + 1, p, by omega, by go_num, by go_num, hS6⟩
                case measure => simp [intOf]; omega
          · obtain ⟨N, rfl⟩ := Int.eq_ofNat_of_zero_le h1
            have he : getOf (textBits s) p N = (Bits.num (((textBits s).drop p).take N), 0, p + N) := by unfold getOf; rw [if_neg (by omega), if_neg (by rw [hlen]; omega), Int.toNat_natCast]
            rw [he] at hget
            have hN : N ≤ 56 := by omega
            have h4 : (N : Int) ≤ 8 * (s.size : Int) - p := by omega
            have hcap := (own_cap hS.out.own).1
            rw [bools_length, hlen] at hcap
            have HPN : Hid (p + N ≤ (textBits s).length) := by show _ ≤ _; rw [hlen]; omega
            clear he h1 h2 h3
            by_cases hpc : p < c
            · have htok : p < c := hpc
              go_wp2_with (first | (go_at_call 27; (with_reducible refine hget.mono ?_); rintro e w4 ⟨rfl, hS4⟩; have hc4 := HCX.out _ _ hS4) | (go_at_call 32; (with_reducible refine (number_is (textBits s) p N hN HPN.out g _ _ _ (fun _ => rfl) (fun j hj => hS4.out.cell j (by rw [← textBits_length]; exact hj))).mono ?_); rintro e w' ⟨rfl, rfl⟩))
              obtain ⟨wo, rfl⟩ : ∃ wo : World, wo = w4 := ⟨_, rfl⟩
              have hcell4 := Lib.hid hS4.out.cell
              go_loop [13, 14] (fun z q => ∃ j : Nat, (p + N) ≤ j ∧ j ≤ 8 * s.size ∧ q = .int .i64 j ∧ z = .bool (zeroTo (textBits s) (p + N) j)) (fun _ q => 8 * s.size - (intOf q).toNat)
              case atStart => exact ⟨(p + N), Nat.le_refl _, by omega, by go_num, by simp [zeroTo]⟩
              case round =>
                obtain ⟨j, hj1, hj2, rfl, rfl⟩ := hrel
                by_cases hjl : j < 8 * s.size
                · have hcj := hcell4.out j hjl
                  have hzs := zeroTo_succ (textBits s) (p + N) j hj1 (by rw [hlen]; exact hjl)
                  cases hbit : (textBits s).getD j false with
                  | false =>
                    rw [hbit] at hzs hcj
                    rw [show b2i false = 0 from rfl] at hcj
                    cases hzz : zeroTo (textBits s) (p + N) j with
                    | true =>
                      rw [hzz] at hzs
                      have HZ := Lib.hid hzs
                      clear hzs hbit hlen hzz
                      go_wp2
                      go_round
                      case rel => exact ⟨j + 1, by omega, by omega, by go_num, by rw [HZ.out]; rfl⟩
                      case measure => simp [intOf]; omega
                    | false =>
                      rw [hzz] at hzs
                      have HZ := Lib.hid hzs
                      clear hzs hbit hlen hzz hcj
                      go_wp2
                      go_round
                      case rel => exact ⟨j + 1, by omega, by omega, by go_num, by rw [HZ.out]; rfl⟩
                      case measure => simp [intOf]; omega
                  | true =>
                    rw [hbit] at hzs hcj
                    rw [show b2i true = 1 from rfl] at hcj
                    cases hzz : zeroTo (textBits s) (p + N) j with
                    | true =>
                      rw [hzz] at hzs
                      have HZ := Lib.hid hzs
                      clear hzs hbit hlen hzz
                      go_wp2
                      go_round
                      case rel => exact ⟨j + 1, by omega, by omega, by go_num, by rw [HZ.out]; rfl⟩
                      case measure => simp [intOf]; omega
                    | false =>
                      rw [hzz] at hzs
                      have HZ := Lib.hid hzs
                      clear hzs hbit hlen hzz hcj
                      go_wp2
                      go_round
                      case rel => exact ⟨j + 1, by omega, by omega, by go_num, by rw [HZ.out]; rfl⟩
                      case measure => simp [intOf]; omega
                · obtain rfl : j = 8 * s.size := by omega
                  have hzl : zeroTo (textBits s) (p + N) (8 * s.size) = zerosOf (textBits s) (p + N) := by rw [← hlen]; exact zeroTo_all _ _
                  rw [hzl]
                  have hleft := left_state (by omega) hS4.out
                  have hzero := fun {W : World} (h : Hid (RState w W b g c s ((p + N)))) => zeros_state (by omega) h.out
                  clear hzl hlen
                  go_wp2_with (first | (go_at_call 28; (with_reducible refine hleft.mono ?_); rintro e w5 ⟨rfl, hS5⟩) | (go_at_call 29; (with_reducible refine (hzero hS5).mono ?_); rintro e w6 ⟨rfl, hS6⟩))
                  go_roundw
                  case rel => exact ⟨k + 1, (p + N), by omega, by go_num, by go_num, hS6⟩
                  case measure => simp [intOf]; omega
            · obtain rfl : c = p := by omega
              have hN0 : N ≤ 0 := by omega
              go_wp2_with (first | (go_at_call 27; (with_reducible refine hget.mono ?_); rintro e w4 ⟨rfl, hS4⟩; have hc4 := HCX.out _ _ hS4) | (go_at_call 32; (with_reducible refine (number_is (textBits s) c N hN HPN.out g _ _ _ (fun h => absurd h (by omega)) (fun j hj => hS4.out.cell j (by rw [← textBits_length]; exact hj))).mono ?_); rintro e w' ⟨rfl, rfl⟩))
              obtain ⟨wo, rfl⟩ : ∃ wo : World, wo = w4 := ⟨_, rfl⟩
              have hcell4 := Lib.hid hS4.out.cell
              go_loop [13, 14] (fun z q => ∃ j : Nat, (c + N) ≤ j ∧ j ≤ 8 * s.size ∧ q = .int .i64 j ∧ z = .bool (zeroTo (textBits s) (c + N) j)) (fun _ q => 8 * s.size - (intOf q).toNat)
              case atStart => exact ⟨(c + N), Nat.le_refl _, by omega, by go_num, by simp [zeroTo]⟩
              case round =>
                obtain ⟨j, hj1, hj2, rfl, rfl⟩ := hrel
                by_cases hjl : j < 8 * s.size
                · exact absurd hjl (by omega)
                · obtain rfl : j = 8 * s.size := by omega
                  have hzl : zeroTo (textBits s) (c + N) (8 * s.size) = zerosOf (textBits s) (c + N) := by rw [← hlen]; exact zeroTo_all _ _
                  rw [hzl]
                  have hleft := left_state (by omega) hS4.out
                  have hzero := fun {W : World} (h : Hid (RState w W b g c s ((c + N)))) => zeros_state (by omega) h.out
                  clear hzl hlen
                  go_wp2_with (first | (go_at_call 28; (with_reducible refine hleft.mono ?_); rintro e w5 ⟨rfl, hS5⟩) | (go_at_call 29; (with_reducible refine (hzero hS5).mono ?_); rintro e w6 ⟨rfl, hS6⟩))
                  go_roundw
                  case rel => exact ⟨k + 1, (c + N), by omega, by go_num, by go_num, hS6⟩
                  case measure => simp [intOf]; omega
        · obtain rfl : k = n := by omega
          have hbel := hS.out.below
          go_wp2
          go_ret
          exact ⟨rfl, hbel⟩
  · by_cases h1 : s.size ≤ 300
    · have h2 : ¬ n ≤ 60 := fun h => h60 ⟨h1, h⟩
      clear h60
      go_enter Try.func12, Try.ntmps12
      go_wp2_with (go_at_call 17; (with_reducible refine (on_base (by assumption) (bitsAwake_is _)).mono ?_); rintro e w1 ⟨rfl, hb1⟩)
      go_ret
      exact ⟨rfl, by assumption⟩
    · clear h60
      go_enter Try.func12, Try.ntmps12
      go_wp2_with (go_at_call 17; (with_reducible refine (on_base (by assumption) (bitsAwake_is _)).mono ?_); rintro e w1 ⟨rfl, hb1⟩)
      go_ret
      exact ⟨rfl, by assumption⟩
end Go.Proofs.Ythhfogpkaeminaa
