/- A step of a stage, a stage: the walks. -/
import Derived.Test.YthoemgiadadfcaaWsCross
set_option linter.unusedVariables false
set_option linter.unusedSimpArgs false
namespace Go.Proofs.Ythoemgiadadfcaa
open Go.RowKit Go.Sort Ws
theorem Wk.then {w w1 w2 : World} {b n : Nat} {t : TypeId} {f g : Nat → Int} (h1 : Wk w b t n f w1) (h2 : Wk w1 b t n g w2) : Wk w b t n g w2 := ⟨h2.1, h1.2.trans h2.2⟩
theorem ahead_is (i j : Nat) (k : Int) (hi : i < 16) (hj : j < 16) (b : Nat) (f : F) (w : World) (h : Blk w b 60 32 f) :
    Calls Try.prog 32 #[.pointer (some ⟨b, 0, none⟩), .int .i64 i, .int .i64 j, .int .i64 k] w fun e w' => e = .returned (.tuple #[]) ∧ Wk w b 60 32 (Ws.ahead (i, j, k) f) w' := by
  have q1 := cross_is i j hi hj b f w h
  have q2 := Lib.hid fun w' (h' : Blk w' b 60 32 (cross i j f)) => wturn_is j hj k b (cross i j f) w' h'
  have hE : Hid (Ws.ahead (i, j, k) f = turnAt j k (cross i j f)) := rfl
  clear h
  go_enter Try.func32, Try.ntmps32
  go_wp2_with (first | (go_at_call 42; (with_reducible refine q1.mono ?_); rintro e w8 ⟨rfl, h8⟩; have q3 := q2.out w8 h8.1; have H8 := Lib.hid h8; clear q1 h8) | (go_at_call 29; (with_reducible refine q3.mono ?_); rintro e w9 ⟨rfl, h9⟩; have H9 := Lib.hid h9; clear h9 q3))
  go_end0
  exact ⟨rfl, by rw [hE.out]; exact H8.out.then H9.out⟩
theorem behind_is (i j : Nat) (k : Int) (hi : i < 16) (hj : j < 16) (b : Nat) (f : F) (w : World) (h : Blk w b 60 32 f) :
    Calls Try.prog 35 #[.pointer (some ⟨b, 0, none⟩), .int .i64 i, .int .i64 j, .int .i64 k] w fun e w' => e = .returned (.tuple #[]) ∧ Wk w b 60 32 (Ws.behind (i, j, k) f) w' := by
  have q1 := wback_is j hj k b f w h
  have q2 := Lib.hid fun w' (h' : Blk w' b 60 32 (backAt j k f)) => uncross_is i j hi hj b (backAt j k f) w' h'
  have hE : Hid (Ws.behind (i, j, k) f = uncross i j (backAt j k f)) := rfl
  clear h
  go_enter Try.func35, Try.ntmps35
  go_wp2_with (first | (go_at_call 34; (with_reducible refine q1.mono ?_); rintro e w8 ⟨rfl, h8⟩; have q3 := q2.out w8 h8.1; have H8 := Lib.hid h8; clear q1 h8) | (go_at_call 43; (with_reducible refine q3.mono ?_); rintro e w9 ⟨rfl, h9⟩; have H9 := Lib.hid h9; clear h9 q3))
  go_end0
  exact ⟨rfl, by rw [hE.out]; exact H8.out.then H9.out⟩
namespace Ws
def inn (op : Q → F → F) (s a : Nat) : Nat → F → F
  | 0, f => f
  | m + 1, f => op (a * s + m, a * s + m + s / 2, -((m * 512 / s : Nat) : Int)) (inn op s a m f)
def outs (op : Q → F → F) (s : Nat) : Nat → F → F
  | 0, f => f
  | a + 1, f => inn op s a (s / 2) (outs op s a f)
theorem outs_run (op : Q → F → F) (f : F) : outs op 2 8 f = Ws.run op (stL 2) f ∧ outs op 4 4 f = Ws.run op (stL 4) f ∧ outs op 8 2 f = Ws.run op (stL 8) f ∧ outs op 16 1 f = Ws.run op (stL 16) f := ⟨rfl, rfl, rfl, rfl⟩
end Ws
set_option maxRecDepth 100000 in
set_option maxHeartbeats 1600000 in
theorem stage_ahead2 (b : Nat) (f : F) (w : World) (h : Blk w b 60 32 f) :
    Calls Try.prog 31 #[.pointer (some ⟨b, 0, none⟩), .int .i64 2, .func (.func 32) #[] #[]] w fun e w' => e = .returned (.tuple #[]) ∧ Wk w b 60 32 (Ws.run Ws.ahead (stL 2) f) w' := by
  have hS0 : Hid (Wk w b 60 32 (outs Ws.ahead 2 0 f) w) := ⟨h, Keep.refl _ _⟩
  have hE : Hid (outs Ws.ahead 2 8 f = Ws.run Ws.ahead (stL 2) f) := (outs_run Ws.ahead f).1
  have hop := Lib.hid fun (i j : Nat) (k : Int) (hi : i < 16) (hj : j < 16) (g : F) (w : World) (h : Blk w b 60 32 g) => ahead_is i j k hi hj b g w h
  clear h
  go_enter Try.func31, Try.ntmps31
  go_wp2
  go_loopw [6] (fun q wr => ∃ a : Nat, a ≤ 8 ∧ q = .int .i64 ((a : Int) * 2) ∧ Hid (Wk w b 60 32 (outs Ws.ahead 2 a f) wr)) (fun q _ => 16 - (intOf q).toNat)
  case atStart => exact ⟨0, by omega, rfl, hS0⟩
  case round =>
    clear hS0
    obtain ⟨a, ha, rfl, hA⟩ := hrel
    obtain ⟨wo, rfl⟩ : ∃ wo : World, wo = wr := ⟨_, rfl⟩
    by_cases hlt : a < 8
    · have hI0 : Hid (Wk w b 60 32 (inn Ws.ahead 2 a 0 (outs Ws.ahead 2 a f)) wo) := hA.out
      have hst : Hid (outs Ws.ahead 2 (a + 1) f = inn Ws.ahead 2 a 1 (outs Ws.ahead 2 a f)) := rfl
      have hnx : Hid ((a : Int) * 2 + 2 = ((a + 1 : Nat) : Int) * 2) := by show _ = _; omega
      have hdc : decide ((a : Int) * 2 < 16) = true := decide_eq_true (by omega)
      generalize outs Ws.ahead 2 a f = g at *
      clear hA
      go_wp2
      go_loopw [15] (fun q wr => ∃ m : Nat, m ≤ 1 ∧ q = .int .i64 m ∧ Hid (Wk w b 60 32 (inn Ws.ahead 2 a m g) wr)) (fun q _ => 1 - (intOf q).toNat)
      case atStart => exact ⟨0, by omega, rfl, hI0⟩
      case round =>
        clear hI0
        obtain ⟨m, hm, rfl, hA⟩ := hrel
        obtain ⟨wo, rfl⟩ : ∃ wo : World, wo = wr := ⟨_, rfl⟩
        by_cases hlt2 : m < 1
        · have q1 := hop.out (a * 2 + m) (a * 2 + m + 1) (-((m * 512 / 2 : Nat) : Int)) (by omega) (by omega) _ wo hA.out.1
          have hsm : Hid (inn Ws.ahead 2 a (m + 1) g = Ws.ahead (a * 2 + m, a * 2 + m + 1, -((m * 512 / 2 : Nat) : Int)) (inn Ws.ahead 2 a m g)) := rfl
          rw [show ((a * 2 + m : Nat) : Int) = (a : Int) * 2 + (m : Int) by omega, show ((a * 2 + m + 1 : Nat) : Int) = (a : Int) * 2 + (m : Int) + 1 by omega, show ((m * 512 / 2 : Nat) : Int) = (m : Int) * 512 / 2 by omega] at q1
          generalize inn Ws.ahead 2 a m g = g2 at *
          have HA := Lib.hid hA
          clear hA
          go_wp2_with (go_at_call 32; (with_reducible refine q1.mono ?_); rintro e w8 ⟨rfl, h8⟩; have H8 := Lib.hid h8; clear h8 q1)
          have hN : Hid (Wk w b 60 32 (inn Ws.ahead 2 a (m + 1) g) w8) := by
            show Wk _ _ _ _ _ _
            rw [hsm.out, show ((m * 512 / 2 : Nat) : Int) = (m : Int) * 512 / 2 by omega]
            exact HA.out.out.then H8.out
          go_roundw
          case rel => exact ⟨m + 1, by omega, by go_num, hN⟩
          case measure => simp [intOf]; omega
        · obtain rfl : m = 1 := by omega
          have hN : Hid (Wk w b 60 32 (outs Ws.ahead 2 (a + 1) f) wo) := by show Wk _ _ _ _ _ _; rw [hst.out]; exact hA.out
          clear hA
          go_wp2
          go_roundw
          case rel => exact ⟨a + 1, by omega, by rw [hnx.out], hN⟩
          case measure => simp [intOf]; omega
    · obtain rfl : a = 8 := by omega
      rw [hE.out] at hA
      go_wp2
      go_end0
      exact ⟨rfl, hA.out⟩
set_option maxRecDepth 100000 in
set_option maxHeartbeats 1600000 in
theorem stage_ahead4 (b : Nat) (f : F) (w : World) (h : Blk w b 60 32 f) :
    Calls Try.prog 31 #[.pointer (some ⟨b, 0, none⟩), .int .i64 4, .func (.func 32) #[] #[]] w fun e w' => e = .returned (.tuple #[]) ∧ Wk w b 60 32 (Ws.run Ws.ahead (stL 4) f) w' := by
  have hS0 : Hid (Wk w b 60 32 (outs Ws.ahead 4 0 f) w) := ⟨h, Keep.refl _ _⟩
  have hE : Hid (outs Ws.ahead 4 4 f = Ws.run Ws.ahead (stL 4) f) := (outs_run Ws.ahead f).2.1
  have hop := Lib.hid fun (i j : Nat) (k : Int) (hi : i < 16) (hj : j < 16) (g : F) (w : World) (h : Blk w b 60 32 g) => ahead_is i j k hi hj b g w h
  clear h
  go_enter Try.func31, Try.ntmps31
  go_wp2
  go_loopw [6] (fun q wr => ∃ a : Nat, a ≤ 4 ∧ q = .int .i64 ((a : Int) * 4) ∧ Hid (Wk w b 60 32 (outs Ws.ahead 4 a f) wr)) (fun q _ => 16 - (intOf q).toNat)
  case atStart => exact ⟨0, by omega, rfl, hS0⟩
  case round =>
    clear hS0
    obtain ⟨a, ha, rfl, hA⟩ := hrel
    obtain ⟨wo, rfl⟩ : ∃ wo : World, wo = wr := ⟨_, rfl⟩
    by_cases hlt : a < 4
    · have hI0 : Hid (Wk w b 60 32 (inn Ws.ahead 4 a 0 (outs Ws.ahead 4 a f)) wo) := hA.out
      have hst : Hid (outs Ws.ahead 4 (a + 1) f = inn Ws.ahead 4 a 2 (outs Ws.ahead 4 a f)) := rfl
      have hnx : Hid ((a : Int) * 4 + 4 = ((a + 1 : Nat) : Int) * 4) := by show _ = _; omega
      have hdc : decide ((a : Int) * 4 < 16) = true := decide_eq_true (by omega)
      generalize outs Ws.ahead 4 a f = g at *
      clear hA
      go_wp2
      go_loopw [15] (fun q wr => ∃ m : Nat, m ≤ 2 ∧ q = .int .i64 m ∧ Hid (Wk w b 60 32 (inn Ws.ahead 4 a m g) wr)) (fun q _ => 2 - (intOf q).toNat)
      case atStart => exact ⟨0, by omega, rfl, hI0⟩
      case round =>
        clear hI0
        obtain ⟨m, hm, rfl, hA⟩ := hrel
        obtain ⟨wo, rfl⟩ : ∃ wo : World, wo = wr := ⟨_, rfl⟩
        by_cases hlt2 : m < 2
        · have q1 := hop.out (a * 4 + m) (a * 4 + m + 2) (-((m * 512 / 4 : Nat) : Int)) (by omega) (by omega) _ wo hA.out.1
          have hsm : Hid (inn Ws.ahead 4 a (m + 1) g = Ws.ahead (a * 4 + m, a * 4 + m + 2, -((m * 512 / 4 : Nat) : Int)) (inn Ws.ahead 4 a m g)) := rfl
          rw [show ((a * 4 + m : Nat) : Int) = (a : Int) * 4 + (m : Int) by omega, show ((a * 4 + m + 2 : Nat) : Int) = (a : Int) * 4 + (m : Int) + 2 by omega, show ((m * 512 / 4 : Nat) : Int) = (m : Int) * 512 / 4 by omega] at q1
          generalize inn Ws.ahead 4 a m g = g2 at *
          have HA := Lib.hid hA
          clear hA
          go_wp2_with (go_at_call 32; (with_reducible refine q1.mono ?_); rintro e w8 ⟨rfl, h8⟩; have H8 := Lib.hid h8; clear h8 q1)
          have hN : Hid (Wk w b 60 32 (inn Ws.ahead 4 a (m + 1) g) w8) := by
            show Wk _ _ _ _ _ _
            rw [hsm.out, show ((m * 512 / 4 : Nat) : Int) = (m : Int) * 512 / 4 by omega]
            exact HA.out.out.then H8.out
          go_roundw
          case rel => exact ⟨m + 1, by omega, by go_num, hN⟩
          case measure => simp [intOf]; omega
        · obtain rfl : m = 2 := by omega
          have hN : Hid (Wk w b 60 32 (outs Ws.ahead 4 (a + 1) f) wo) := by show Wk _ _ _ _ _ _; rw [hst.out]; exact hA.out
          clear hA
          go_wp2
          go_roundw
          case rel => exact ⟨a + 1, by omega, by rw [hnx.out], hN⟩
          case measure => simp [intOf]; omega
    · obtain rfl : a = 4 := by omega
      rw [hE.out] at hA
      go_wp2
      go_end0
      exact ⟨rfl, hA.out⟩
set_option maxRecDepth 100000 in
set_option maxHeartbeats 1600000 in
theorem stage_ahead8 (b : Nat) (f : F) (w : World) (h : Blk w b 60 32 f) :
    Calls Try.prog 31 #[.pointer (some ⟨b, 0, none⟩), .int .i64 8, .func (.func 32) #[] #[]] w fun e w' => e = .returned (.tuple #[]) ∧ Wk w b 60 32 (Ws.run Ws.ahead (stL 8) f) w' := by
  have hS0 : Hid (Wk w b 60 32 (outs Ws.ahead 8 0 f) w) := ⟨h, Keep.refl _ _⟩
  have hE : Hid (outs Ws.ahead 8 2 f = Ws.run Ws.ahead (stL 8) f) := (outs_run Ws.ahead f).2.2.1
  have hop := Lib.hid fun (i j : Nat) (k : Int) (hi : i < 16) (hj : j < 16) (g : F) (w : World) (h : Blk w b 60 32 g) => ahead_is i j k hi hj b g w h
  clear h
  go_enter Try.func31, Try.ntmps31
  go_wp2
  go_loopw [6] (fun q wr => ∃ a : Nat, a ≤ 2 ∧ q = .int .i64 ((a : Int) * 8) ∧ Hid (Wk w b 60 32 (outs Ws.ahead 8 a f) wr)) (fun q _ => 16 - (intOf q).toNat)
  case atStart => exact ⟨0, by omega, rfl, hS0⟩
  case round =>
    clear hS0
    obtain ⟨a, ha, rfl, hA⟩ := hrel
    obtain ⟨wo, rfl⟩ : ∃ wo : World, wo = wr := ⟨_, rfl⟩
    by_cases hlt : a < 2
    · have hI0 : Hid (Wk w b 60 32 (inn Ws.ahead 8 a 0 (outs Ws.ahead 8 a f)) wo) := hA.out
      have hst : Hid (outs Ws.ahead 8 (a + 1) f = inn Ws.ahead 8 a 4 (outs Ws.ahead 8 a f)) := rfl
      have hnx : Hid ((a : Int) * 8 + 8 = ((a + 1 : Nat) : Int) * 8) := by show _ = _; omega
      have hdc : decide ((a : Int) * 8 < 16) = true := decide_eq_true (by omega)
      generalize outs Ws.ahead 8 a f = g at *
      clear hA
      go_wp2
      go_loopw [15] (fun q wr => ∃ m : Nat, m ≤ 4 ∧ q = .int .i64 m ∧ Hid (Wk w b 60 32 (inn Ws.ahead 8 a m g) wr)) (fun q _ => 4 - (intOf q).toNat)
      case atStart => exact ⟨0, by omega, rfl, hI0⟩
      case round =>
        clear hI0
        obtain ⟨m, hm, rfl, hA⟩ := hrel
        obtain ⟨wo, rfl⟩ : ∃ wo : World, wo = wr := ⟨_, rfl⟩
        by_cases hlt2 : m < 4
        · have q1 := hop.out (a * 8 + m) (a * 8 + m + 4) (-((m * 512 / 8 : Nat) : Int)) (by omega) (by omega) _ wo hA.out.1
          have hsm : Hid (inn Ws.ahead 8 a (m + 1) g = Ws.ahead (a * 8 + m, a * 8 + m + 4, -((m * 512 / 8 : Nat) : Int)) (inn Ws.ahead 8 a m g)) := rfl
          rw [show ((a * 8 + m : Nat) : Int) = (a : Int) * 8 + (m : Int) by omega, show ((a * 8 + m + 4 : Nat) : Int) = (a : Int) * 8 + (m : Int) + 4 by omega, show ((m * 512 / 8 : Nat) : Int) = (m : Int) * 512 / 8 by omega] at q1
          generalize inn Ws.ahead 8 a m g = g2 at *
          have HA := Lib.hid hA
          clear hA
          go_wp2_with (go_at_call 32; (with_reducible refine q1.mono ?_); rintro e w8 ⟨rfl, h8⟩; have H8 := Lib.hid h8; clear h8 q1)
          have hN : Hid (Wk w b 60 32 (inn Ws.ahead 8 a (m + 1) g) w8) := by
            show Wk _ _ _ _ _ _
            rw [hsm.out, show ((m * 512 / 8 : Nat) : Int) = (m : Int) * 512 / 8 by omega]
            exact HA.out.out.then H8.out
          go_roundw
          case rel => exact ⟨m + 1, by omega, by go_num, hN⟩
          case measure => simp [intOf]; omega
        · obtain rfl : m = 4 := by omega
          have hN : Hid (Wk w b 60 32 (outs Ws.ahead 8 (a + 1) f) wo) := by show Wk _ _ _ _ _ _; rw [hst.out]; exact hA.out
          clear hA
          go_wp2
          go_roundw
          case rel => exact ⟨a + 1, by omega, by rw [hnx.out], hN⟩
          case measure => simp [intOf]; omega
    · obtain rfl : a = 2 := by omega
      rw [hE.out] at hA
      go_wp2
      go_end0
      exact ⟨rfl, hA.out⟩
set_option maxRecDepth 100000 in
set_option maxHeartbeats 1600000 in
theorem stage_ahead16 (b : Nat) (f : F) (w : World) (h : Blk w b 60 32 f) :
    Calls Try.prog 31 #[.pointer (some ⟨b, 0, none⟩), .int .i64 16, .func (.func 32) #[] #[]] w fun e w' => e = .returned (.tuple #[]) ∧ Wk w b 60 32 (Ws.run Ws.ahead (stL 16) f) w' := by
  have hS0 : Hid (Wk w b 60 32 (outs Ws.ahead 16 0 f) w) := ⟨h, Keep.refl _ _⟩
  have hE : Hid (outs Ws.ahead 16 1 f = Ws.run Ws.ahead (stL 16) f) := (outs_run Ws.ahead f).2.2.2
  have hop := Lib.hid fun (i j : Nat) (k : Int) (hi : i < 16) (hj : j < 16) (g : F) (w : World) (h : Blk w b 60 32 g) => ahead_is i j k hi hj b g w h
  clear h
  go_enter Try.func31, Try.ntmps31
  go_wp2
  go_loopw [6] (fun q wr => ∃ a : Nat, a ≤ 1 ∧ q = .int .i64 ((a : Int) * 16) ∧ Hid (Wk w b 60 32 (outs Ws.ahead 16 a f) wr)) (fun q _ => 16 - (intOf q).toNat)
  case atStart => exact ⟨0, by omega, rfl, hS0⟩
  case round =>
    clear hS0
    obtain ⟨a, ha, rfl, hA⟩ := hrel
    obtain ⟨wo, rfl⟩ : ∃ wo : World, wo = wr := ⟨_, rfl⟩
    by_cases hlt : a < 1
    · have hI0 : Hid (Wk w b 60 32 (inn Ws.ahead 16 a 0 (outs Ws.ahead 16 a f)) wo) := hA.out
      have hst : Hid (outs Ws.ahead 16 (a + 1) f = inn Ws.ahead 16 a 8 (outs Ws.ahead 16 a f)) := rfl
      have hnx : Hid ((a : Int) * 16 + 16 = ((a + 1 : Nat) : Int) * 16) := by show _ = _; omega
      have hdc : decide ((a : Int) * 16 < 16) = true := decide_eq_true (by omega)
      generalize outs Ws.ahead 16 a f = g at *
      clear hA
      go_wp2
      go_loopw [15] (fun q wr => ∃ m : Nat, m ≤ 8 ∧ q = .int .i64 m ∧ Hid (Wk w b 60 32 (inn Ws.ahead 16 a m g) wr)) (fun q _ => 8 - (intOf q).toNat)
      case atStart => exact ⟨0, by omega, rfl, hI0⟩
      case round =>
        clear hI0
        obtain ⟨m, hm, rfl, hA⟩ := hrel
        obtain ⟨wo, rfl⟩ : ∃ wo : World, wo = wr := ⟨_, rfl⟩
        by_cases hlt2 : m < 8
        · have q1 := hop.out (a * 16 + m) (a * 16 + m + 8) (-((m * 512 / 16 : Nat) : Int)) (by omega) (by omega) _ wo hA.out.1
          have hsm : Hid (inn Ws.ahead 16 a (m + 1) g = Ws.ahead (a * 16 + m, a * 16 + m + 8, -((m * 512 / 16 : Nat) : Int)) (inn Ws.ahead 16 a m g)) := rfl
          rw [show ((a * 16 + m : Nat) : Int) = (a : Int) * 16 + (m : Int) by omega, show ((a * 16 + m + 8 : Nat) : Int) = (a : Int) * 16 + (m : Int) + 8 by omega, show ((m * 512 / 16 : Nat) : Int) = (m : Int) * 512 / 16 by omega] at q1
          generalize inn Ws.ahead 16 a m g = g2 at *
          have HA := Lib.hid hA
          clear hA
          go_wp2_with (go_at_call 32; (with_reducible refine q1.mono ?_); rintro e w8 ⟨rfl, h8⟩; have H8 := Lib.hid h8; clear h8 q1)
          have hN : Hid (Wk w b 60 32 (inn Ws.ahead 16 a (m + 1) g) w8) := by
            show Wk _ _ _ _ _ _
            rw [hsm.out, show ((m * 512 / 16 : Nat) : Int) = (m : Int) * 512 / 16 by omega]
            exact HA.out.out.then H8.out
          go_roundw
          case rel => exact ⟨m + 1, by omega, by go_num, hN⟩
          case measure => simp [intOf]; omega
        · obtain rfl : m = 8 := by omega
          have hN : Hid (Wk w b 60 32 (outs Ws.ahead 16 (a + 1) f) wo) := by show Wk _ _ _ _ _ _; rw [hst.out]; exact hA.out
          clear hA
          go_wp2
          go_roundw
          case rel => exact ⟨a + 1, by omega, by rw [hnx.out], hN⟩
          case measure => simp [intOf]; omega
    · obtain rfl : a = 1 := by omega
      rw [hE.out] at hA
      go_wp2
      go_end0
      exact ⟨rfl, hA.out⟩
set_option maxRecDepth 100000 in
set_option maxHeartbeats 1600000 in
theorem stage_behind2 (b : Nat) (f : F) (w : World) (h : Blk w b 60 32 f) :
    Calls Try.prog 31 #[.pointer (some ⟨b, 0, none⟩), .int .i64 2, .func (.func 35) #[] #[]] w fun e w' => e = .returned (.tuple #[]) ∧ Wk w b 60 32 (Ws.run Ws.behind (stL 2) f) w' := by
  have hS0 : Hid (Wk w b 60 32 (outs Ws.behind 2 0 f) w) := ⟨h, Keep.refl _ _⟩
  have hE : Hid (outs Ws.behind 2 8 f = Ws.run Ws.behind (stL 2) f) := (outs_run Ws.behind f).1
  have hop := Lib.hid fun (i j : Nat) (k : Int) (hi : i < 16) (hj : j < 16) (g : F) (w : World) (h : Blk w b 60 32 g) => behind_is i j k hi hj b g w h
  clear h
  go_enter Try.func31, Try.ntmps31
  go_wp2
  go_loopw [6] (fun q wr => ∃ a : Nat, a ≤ 8 ∧ q = .int .i64 ((a : Int) * 2) ∧ Hid (Wk w b 60 32 (outs Ws.behind 2 a f) wr)) (fun q _ => 16 - (intOf q).toNat)
  case atStart => exact ⟨0, by omega, rfl, hS0⟩
  case round =>
    clear hS0
    obtain ⟨a, ha, rfl, hA⟩ := hrel
    obtain ⟨wo, rfl⟩ : ∃ wo : World, wo = wr := ⟨_, rfl⟩
    by_cases hlt : a < 8
    · have hI0 : Hid (Wk w b 60 32 (inn Ws.behind 2 a 0 (outs Ws.behind 2 a f)) wo) := hA.out
      have hst : Hid (outs Ws.behind 2 (a + 1) f = inn Ws.behind 2 a 1 (outs Ws.behind 2 a f)) := rfl
      have hnx : Hid ((a : Int) * 2 + 2 = ((a + 1 : Nat) : Int) * 2) := by show _ = _; omega
      have hdc : decide ((a : Int) * 2 < 16) = true := decide_eq_true (by omega)
      generalize outs Ws.behind 2 a f = g at *
      clear hA
      go_wp2
      go_loopw [15] (fun q wr => ∃ m : Nat, m ≤ 1 ∧ q = .int .i64 m ∧ Hid (Wk w b 60 32 (inn Ws.behind 2 a m g) wr)) (fun q _ => 1 - (intOf q).toNat)
      case atStart => exact ⟨0, by omega, rfl, hI0⟩
      case round =>
        clear hI0
        obtain ⟨m, hm, rfl, hA⟩ := hrel
        obtain ⟨wo, rfl⟩ : ∃ wo : World, wo = wr := ⟨_, rfl⟩
        by_cases hlt2 : m < 1
        · have q1 := hop.out (a * 2 + m) (a * 2 + m + 1) (-((m * 512 / 2 : Nat) : Int)) (by omega) (by omega) _ wo hA.out.1
          have hsm : Hid (inn Ws.behind 2 a (m + 1) g = Ws.behind (a * 2 + m, a * 2 + m + 1, -((m * 512 / 2 : Nat) : Int)) (inn Ws.behind 2 a m g)) := rfl
          rw [show ((a * 2 + m : Nat) : Int) = (a : Int) * 2 + (m : Int) by omega, show ((a * 2 + m + 1 : Nat) : Int) = (a : Int) * 2 + (m : Int) + 1 by omega, show ((m * 512 / 2 : Nat) : Int) = (m : Int) * 512 / 2 by omega] at q1
          generalize inn Ws.behind 2 a m g = g2 at *
          have HA := Lib.hid hA
          clear hA
          go_wp2_with (go_at_call 35; (with_reducible refine q1.mono ?_); rintro e w8 ⟨rfl, h8⟩; have H8 := Lib.hid h8; clear h8 q1)
          have hN : Hid (Wk w b 60 32 (inn Ws.behind 2 a (m + 1) g) w8) := by
            show Wk _ _ _ _ _ _
            rw [hsm.out, show ((m * 512 / 2 : Nat) : Int) = (m : Int) * 512 / 2 by omega]
            exact HA.out.out.then H8.out
          go_roundw
          case rel => exact ⟨m + 1, by omega, by go_num, hN⟩
          case measure => simp [intOf]; omega
        · obtain rfl : m = 1 := by omega
          have hN : Hid (Wk w b 60 32 (outs Ws.behind 2 (a + 1) f) wo) := by show Wk _ _ _ _ _ _; rw [hst.out]; exact hA.out
          clear hA
          go_wp2
          go_roundw
          case rel => exact ⟨a + 1, by omega, by rw [hnx.out], hN⟩
          case measure => simp [intOf]; omega
    · obtain rfl : a = 8 := by omega
      rw [hE.out] at hA
      go_wp2
      go_end0
      exact ⟨rfl, hA.out⟩
set_option maxRecDepth 100000 in
set_option maxHeartbeats 1600000 in
theorem stage_behind4 (b : Nat) (f : F) (w : World) (h : Blk w b 60 32 f) :
    Calls Try.prog 31 #[.pointer (some ⟨b, 0, none⟩), .int .i64 4, .func (.func 35) #[] #[]] w fun e w' => e = .returned (.tuple #[]) ∧ Wk w b 60 32 (Ws.run Ws.behind (stL 4) f) w' := by
  have hS0 : Hid (Wk w b 60 32 (outs Ws.behind 4 0 f) w) := ⟨h, Keep.refl _ _⟩
  have hE : Hid (outs Ws.behind 4 4 f = Ws.run Ws.behind (stL 4) f) := (outs_run Ws.behind f).2.1
  have hop := Lib.hid fun (i j : Nat) (k : Int) (hi : i < 16) (hj : j < 16) (g : F) (w : World) (h : Blk w b 60 32 g) => behind_is i j k hi hj b g w h
  clear h
  go_enter Try.func31, Try.ntmps31
  go_wp2
  go_loopw [6] (fun q wr => ∃ a : Nat, a ≤ 4 ∧ q = .int .i64 ((a : Int) * 4) ∧ Hid (Wk w b 60 32 (outs Ws.behind 4 a f) wr)) (fun q _ => 16 - (intOf q).toNat)
  case atStart => exact ⟨0, by omega, rfl, hS0⟩
  case round =>
    clear hS0
    obtain ⟨a, ha, rfl, hA⟩ := hrel
    obtain ⟨wo, rfl⟩ : ∃ wo : World, wo = wr := ⟨_, rfl⟩
    by_cases hlt : a < 4
    · have hI0 : Hid (Wk w b 60 32 (inn Ws.behind 4 a 0 (outs Ws.behind 4 a f)) wo) := hA.out
      have hst : Hid (outs Ws.behind 4 (a + 1) f = inn Ws.behind 4 a 2 (outs Ws.behind 4 a f)) := rfl
      have hnx : Hid ((a : Int) * 4 + 4 = ((a + 1 : Nat) : Int) * 4) := by show _ = _; omega
      have hdc : decide ((a : Int) * 4 < 16) = true := decide_eq_true (by omega)
      generalize outs Ws.behind 4 a f = g at *
      clear hA
      go_wp2
      go_loopw [15] (fun q wr => ∃ m : Nat, m ≤ 2 ∧ q = .int .i64 m ∧ Hid (Wk w b 60 32 (inn Ws.behind 4 a m g) wr)) (fun q _ => 2 - (intOf q).toNat)
      case atStart => exact ⟨0, by omega, rfl, hI0⟩
      case round =>
        clear hI0
        obtain ⟨m, hm, rfl, hA⟩ := hrel
        obtain ⟨wo, rfl⟩ : ∃ wo : World, wo = wr := ⟨_, rfl⟩
        by_cases hlt2 : m < 2
        · have q1 := hop.out (a * 4 + m) (a * 4 + m + 2) (-((m * 512 / 4 : Nat) : Int)) (by omega) (by omega) _ wo hA.out.1
          have hsm : Hid (inn Ws.behind 4 a (m + 1) g = Ws.behind (a * 4 + m, a * 4 + m + 2, -((m * 512 / 4 : Nat) : Int)) (inn Ws.behind 4 a m g)) := rfl
          rw [show ((a * 4 + m : Nat) : Int) = (a : Int) * 4 + (m : Int) by omega, show ((a * 4 + m + 2 : Nat) : Int) = (a : Int) * 4 + (m : Int) + 2 by omega, show ((m * 512 / 4 : Nat) : Int) = (m : Int) * 512 / 4 by omega] at q1
          generalize inn Ws.behind 4 a m g = g2 at *
          have HA := Lib.hid hA
          clear hA
          go_wp2_with (go_at_call 35; (with_reducible refine q1.mono ?_); rintro e w8 ⟨rfl, h8⟩; have H8 := Lib.hid h8; clear h8 q1)
          have hN : Hid (Wk w b 60 32 (inn Ws.behind 4 a (m + 1) g) w8) := by
            show Wk _ _ _ _ _ _
            rw [hsm.out, show ((m * 512 / 4 : Nat) : Int) = (m : Int) * 512 / 4 by omega]
            exact HA.out.out.then H8.out
          go_roundw
          case rel => exact ⟨m + 1, by omega, by go_num, hN⟩
          case measure => simp [intOf]; omega
        · obtain rfl : m = 2 := by omega
          have hN : Hid (Wk w b 60 32 (outs Ws.behind 4 (a + 1) f) wo) := by show Wk _ _ _ _ _ _; rw [hst.out]; exact hA.out
          clear hA
          go_wp2
          go_roundw
          case rel => exact ⟨a + 1, by omega, by rw [hnx.out], hN⟩
          case measure => simp [intOf]; omega
    · obtain rfl : a = 4 := by omega
      rw [hE.out] at hA
      go_wp2
      go_end0
      exact ⟨rfl, hA.out⟩
set_option maxRecDepth 100000 in
set_option maxHeartbeats 1600000 in
theorem stage_behind8 (b : Nat) (f : F) (w : World) (h : Blk w b 60 32 f) :
    Calls Try.prog 31 #[.pointer (some ⟨b, 0, none⟩), .int .i64 8, .func (.func 35) #[] #[]] w fun e w' => e = .returned (.tuple #[]) ∧ Wk w b 60 32 (Ws.run Ws.behind (stL 8) f) w' := by
  have hS0 : Hid (Wk w b 60 32 (outs Ws.behind 8 0 f) w) := ⟨h, Keep.refl _ _⟩
  have hE : Hid (outs Ws.behind 8 2 f = Ws.run Ws.behind (stL 8) f) := (outs_run Ws.behind f).2.2.1
  have hop := Lib.hid fun (i j : Nat) (k : Int) (hi : i < 16) (hj : j < 16) (g : F) (w : World) (h : Blk w b 60 32 g) => behind_is i j k hi hj b g w h
  clear h
  go_enter Try.func31, Try.ntmps31
  go_wp2
  go_loopw [6] (fun q wr => ∃ a : Nat, a ≤ 2 ∧ q = .int .i64 ((a : Int) * 8) ∧ Hid (Wk w b 60 32 (outs Ws.behind 8 a f) wr)) (fun q _ => 16 - (intOf q).toNat)
  case atStart => exact ⟨0, by omega, rfl, hS0⟩
  case round =>
    clear hS0
    obtain ⟨a, ha, rfl, hA⟩ := hrel
    obtain ⟨wo, rfl⟩ : ∃ wo : World, wo = wr := ⟨_, rfl⟩
    by_cases hlt : a < 2
    · have hI0 : Hid (Wk w b 60 32 (inn Ws.behind 8 a 0 (outs Ws.behind 8 a f)) wo) := hA.out
      have hst : Hid (outs Ws.behind 8 (a + 1) f = inn Ws.behind 8 a 4 (outs Ws.behind 8 a f)) := rfl
      have hnx : Hid ((a : Int) * 8 + 8 = ((a + 1 : Nat) : Int) * 8) := by show _ = _; omega
      have hdc : decide ((a : Int) * 8 < 16) = true := decide_eq_true (by omega)
      generalize outs Ws.behind 8 a f = g at *
      clear hA
      go_wp2
      go_loopw [15] (fun q wr => ∃ m : Nat, m ≤ 4 ∧ q = .int .i64 m ∧ Hid (Wk w b 60 32 (inn Ws.behind 8 a m g) wr)) (fun q _ => 4 - (intOf q).toNat)
      case atStart => exact ⟨0, by omega, rfl, hI0⟩
      case round =>
        clear hI0
        obtain ⟨m, hm, rfl, hA⟩ := hrel
        obtain ⟨wo, rfl⟩ : ∃ wo : World, wo = wr := ⟨_, rfl⟩
        by_cases hlt2 : m < 4
        · have q1 := hop.out (a * 8 + m) (a * 8 + m + 4) (-((m * 512 / 8 : Nat) : Int)) (by omega) (by omega) _ wo hA.out.1
          have hsm : Hid (inn Ws.behind 8 a (m + 1) g = Ws.behind (a * 8 + m, a * 8 + m + 4, -((m * 512 / 8 : Nat) : Int)) (inn Ws.behind 8 a m g)) := rfl
          rw [show ((a * 8 + m : Nat) : Int) = (a : Int) * 8 + (m : Int) by omega, show ((a * 8 + m + 4 : Nat) : Int) = (a : Int) * 8 + (m : Int) + 4 by omega, show ((m * 512 / 8 : Nat) : Int) = (m : Int) * 512 / 8 by omega] at q1
          generalize inn Ws.behind 8 a m g = g2 at *
          have HA := Lib.hid hA
          clear hA
          go_wp2_with (go_at_call 35; (with_reducible refine q1.mono ?_); rintro e w8 ⟨rfl, h8⟩; have H8 := Lib.hid h8; clear h8 q1)
          have hN : Hid (Wk w b 60 32 (inn Ws.behind 8 a (m + 1) g) w8) := by
            show Wk _ _ _ _ _ _
            rw [hsm.out, show ((m * 512 / 8 : Nat) : Int) = (m : Int) * 512 / 8 by omega]
            exact HA.out.out.then H8.out
          go_roundw
          case rel => exact ⟨m + 1, by omega, by go_num, hN⟩
          case measure => simp [intOf]; omega
        · obtain rfl : m = 4 := by omega
          have hN : Hid (Wk w b 60 32 (outs Ws.behind 8 (a + 1) f) wo) := by show Wk _ _ _ _ _ _; rw [hst.out]; exact hA.out
          clear hA
          go_wp2
          go_roundw
          case rel => exact ⟨a + 1, by omega, by rw [hnx.out], hN⟩
          case measure => simp [intOf]; omega
    · obtain rfl : a = 2 := by omega
      rw [hE.out] at hA
      go_wp2
      go_end0
      exact ⟨rfl, hA.out⟩
set_option maxRecDepth 100000 in
set_option maxHeartbeats 1600000 in
theorem stage_behind16 (b : Nat) (f : F) (w : World) (h : Blk w b 60 32 f) :
    Calls Try.prog 31 #[.pointer (some ⟨b, 0, none⟩), .int .i64 16, .func (.func 35) #[] #[]] w fun e w' => e = .returned (.tuple #[]) ∧ Wk w b 60 32 (Ws.run Ws.behind (stL 16) f) w' := by
  have hS0 : Hid (Wk w b 60 32 (outs Ws.behind 16 0 f) w) := ⟨h, Keep.refl _ _⟩
  have hE : Hid (outs Ws.behind 16 1 f = Ws.run Ws.behind (stL 16) f) := (outs_run Ws.behind f).2.2.2
  have hop := Lib.hid fun (i j : Nat) (k : Int) (hi : i < 16) (hj : j < 16) (g : F) (w : World) (h : Blk w b 60 32 g) => behind_is i j k hi hj b g w h
  clear h
  go_enter Try.func31, Try.ntmps31
  go_wp2
  go_loopw [6] (fun q wr => ∃ a : Nat, a ≤ 1 ∧ q = .int .i64 ((a : Int) * 16) ∧ Hid (Wk w b 60 32 (outs Ws.behind 16 a f) wr)) (fun q _ => 16 - (intOf q).toNat)
  case atStart => exact ⟨0, by omega, rfl, hS0⟩
  case round =>
    clear hS0
    obtain ⟨a, ha, rfl, hA⟩ := hrel
    obtain ⟨wo, rfl⟩ : ∃ wo : World, wo = wr := ⟨_, rfl⟩
    by_cases hlt : a < 1
    · have hI0 : Hid (Wk w b 60 32 (inn Ws.behind 16 a 0 (outs Ws.behind 16 a f)) wo) := hA.out
      have hst : Hid (outs Ws.behind 16 (a + 1) f = inn Ws.behind 16 a 8 (outs Ws.behind 16 a f)) := rfl
      have hnx : Hid ((a : Int) * 16 + 16 = ((a + 1 : Nat) : Int) * 16) := by show _ = _; omega
      have hdc : decide ((a : Int) * 16 < 16) = true := decide_eq_true (by omega)
      generalize outs Ws.behind 16 a f = g at *
      clear hA
      go_wp2
      go_loopw [15] (fun q wr => ∃ m : Nat, m ≤ 8 ∧ q = .int .i64 m ∧ Hid (Wk w b 60 32 (inn Ws.behind 16 a m g) wr)) (fun q _ => 8 - (intOf q).toNat)
      case atStart => exact ⟨0, by omega, rfl, hI0⟩
      case round =>
        clear hI0
        obtain ⟨m, hm, rfl, hA⟩ := hrel
        obtain ⟨wo, rfl⟩ : ∃ wo : World, wo = wr := ⟨_, rfl⟩
        by_cases hlt2 : m < 8
        · have q1 := hop.out (a * 16 + m) (a * 16 + m + 8) (-((m * 512 / 16 : Nat) : Int)) (by omega) (by omega) _ wo hA.out.1
          have hsm : Hid (inn Ws.behind 16 a (m + 1) g = Ws.behind (a * 16 + m, a * 16 + m + 8, -((m * 512 / 16 : Nat) : Int)) (inn Ws.behind 16 a m g)) := rfl
          rw [show ((a * 16 + m : Nat) : Int) = (a : Int) * 16 + (m : Int) by omega, show ((a * 16 + m + 8 : Nat) : Int) = (a : Int) * 16 + (m : Int) + 8 by omega, show ((m * 512 / 16 : Nat) : Int) = (m : Int) * 512 / 16 by omega] at q1
          generalize inn Ws.behind 16 a m g = g2 at *
          have HA := Lib.hid hA
          clear hA
          go_wp2_with (go_at_call 35; (with_reducible refine q1.mono ?_); rintro e w8 ⟨rfl, h8⟩; have H8 := Lib.hid h8; clear h8 q1)
          have hN : Hid (Wk w b 60 32 (inn Ws.behind 16 a (m + 1) g) w8) := by
            show Wk _ _ _ _ _ _
            rw [hsm.out, show ((m * 512 / 16 : Nat) : Int) = (m : Int) * 512 / 16 by omega]
            exact HA.out.out.then H8.out
          go_roundw
          case rel => exact ⟨m + 1, by omega, by go_num, hN⟩
          case measure => simp [intOf]; omega
        · obtain rfl : m = 8 := by omega
          have hN : Hid (Wk w b 60 32 (outs Ws.behind 16 (a + 1) f) wo) := by show Wk _ _ _ _ _ _; rw [hst.out]; exact hA.out
          clear hA
          go_wp2
          go_roundw
          case rel => exact ⟨a + 1, by omega, by rw [hnx.out], hN⟩
          case measure => simp [intOf]; omega
    · obtain rfl : a = 1 := by omega
      rw [hE.out] at hA
      go_wp2
      go_end0
      exact ⟨rfl, hA.out⟩
end Go.Proofs.Ythoemgiadadfcaa
