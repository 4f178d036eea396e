/- Two numbers turned by three shears: the walk. -/
import Derived.Test.YthoemgiadadfcaaWsLift
set_option linter.unusedVariables false
set_option linter.unusedSimpArgs false
namespace Go.Proofs.Ythoemgiadadfcaa
open Go.RowKit Go.Sort Ws
set_option maxRecDepth 100000 in
set_option maxHeartbeats 1600000 in
theorem small_fwd (a b : Int) (k : Nat) (hk : k < 65) (ha : -2199023255552 ≤ a ∧ a ≤ 2199023255552) (hb : -2199023255552 ≤ b ∧ b ≤ 2199023255552) (w : World) :
    Calls Try.prog 40 #[.int .i64 a, .int .i64 b, .int .i64 k, .bool false] w fun e w' => e = .returned (.tuple #[.int .i64 (fwd (fp k) (fq k) a b).1, .int .i64 (fwd (fp k) (fq k) a b).2]) ∧ Below w.heap.size w w' := by
  have hmf : ∀ (fn : Fn) (first cap : Array Value) (w : World), (Instr.makeFunc fn first cap).run Try.prog w = .ok (.func fn first cap) w := fun _ _ _ _ => rfl
  have q1 := factors_is k hk w
  have hz : ∀ w, (zeroValue 73).run Try.prog w = .ok (.agg (pc 0 0 0 0)) w := fun w => by kernel_rfl
  generalize fp k = p at *
  generalize fq k = q at *
  unfold fwd
  dsimp only
  have g1 := part_le b p
  have g2 := part_le (a - Ws.part b p) q
  have c1 := fun (w0 w : World) (g : Nat) (h : Pr w0 w g a b p q) => lose_is (by omega) (by omega) h
  have c2 := fun (w0 w : World) (g : Nat) (h : Pr w0 w g (a - Ws.part b p) b p q) => gain_is (by omega) (by omega) h
  have c3 := fun (w0 w : World) (g : Nat) (h : Pr w0 w g (a - Ws.part b p) (b + Ws.part (a - Ws.part b p) q) p q) => lose_is (by omega) (by omega) h
  generalize Ws.part b p = U at *
  generalize a - U = a1 at *
  generalize Ws.part a1 q = V at *
  generalize b + V = b1 at *
  generalize Ws.part b1 p = T at *
  generalize a1 - T = a2 at *
  have c1 := Lib.hid c1
  have c2 := Lib.hid c2
  have c3 := Lib.hid c3
  clear g1 g2 ha hb
  go_enter Try.func40, Try.ntmps40
  go_upto_region 2 with (go_at_call 44; (with_reducible refine q1.mono ?_); rintro e w8 ⟨rfl, hb8⟩; have HB8 := Lib.hid hb8; clear hb8 q1)
  have hP : Hid (Pr w (w8.alloc (.cells (((((pc 0 0 0 0).setIfInBounds 0 (.int .i64 a)).setIfInBounds 1 (.int .i64 b)).setIfInBounds 2 (.int .i64 p)).setIfInBounds 3 (.int .i64 q)) 73)) w8.heap.size a b p q) := ⟨heap_alloc_new w8 _, HB8.out.alloc HB8.out.size _, HB8.out.size⟩
  go_upto_region 6 with (fail)
  generalize w8.alloc (.cells (((((pc 0 0 0 0).setIfInBounds 0 (.int .i64 a)).setIfInBounds 1 (.int .i64 b)).setIfInBounds 2 (.int .i64 p)).setIfInBounds 3 (.int .i64 q)) 73) = W at *
  generalize w8.heap.size = g at *
  have d1 := c1.out _ _ _ hP.out
  clear HB8 hP c1 hz
  go_upto_region 9 with (first | (go_at_call 45; (with_reducible refine d1.mono ?_); rintro e W1 ⟨rfl, h1⟩; have d2 := c2.out _ _ _ h1; clear d1 h1) | (go_at_call 46; (with_reducible refine d2.mono ?_); rintro e W2 ⟨rfl, h2⟩; have d3 := c3.out _ _ _ h2; clear d2 h2) | (go_at_call 45; (with_reducible refine d3.mono ?_); rintro e W3 ⟨rfl, h3⟩; have l0 := h3.c0; have l1 := h3.c1; have HP3 := Lib.hid h3; clear d3 h3))
  have hAd : Hid (∀ n, Below w.heap.size w (W3.drewN n)) := fun n => below_drews HP3.out.below n
  go_quiet (fail)
  go_wp2
  go_ret2
  exact ⟨rfl, hAd.out _⟩
set_option maxRecDepth 100000 in
set_option maxHeartbeats 1600000 in
theorem small_bwd (a b : Int) (k : Nat) (hk : k < 65) (ha : -2199023255552 ≤ a ∧ a ≤ 2199023255552) (hb : -2199023255552 ≤ b ∧ b ≤ 2199023255552) (w : World) :
    Calls Try.prog 40 #[.int .i64 a, .int .i64 b, .int .i64 k, .bool true] w fun e w' => e = .returned (.tuple #[.int .i64 (bwd (fp k) (fq k) a b).1, .int .i64 (bwd (fp k) (fq k) a b).2]) ∧ Below w.heap.size w w' := by
  have hmf : ∀ (fn : Fn) (first cap : Array Value) (w : World), (Instr.makeFunc fn first cap).run Try.prog w = .ok (.func fn first cap) w := fun _ _ _ _ => rfl
  have q1 := factors_is k hk w
  have hz : ∀ w, (zeroValue 73).run Try.prog w = .ok (.agg (pc 0 0 0 0)) w := fun w => by kernel_rfl
  generalize fp k = p at *
  generalize fq k = q at *
  unfold bwd
  dsimp only
  have g1 := part_le b p
  have g2 := part_le (a + Ws.part b p) q
  have c1 := fun (w0 w : World) (g : Nat) (h : Pr w0 w g a b p q) => unlose_is (by omega) (by omega) h
  have c2 := fun (w0 w : World) (g : Nat) (h : Pr w0 w g (a + Ws.part b p) b p q) => ungain_is (by omega) (by omega) h
  have c3 := fun (w0 w : World) (g : Nat) (h : Pr w0 w g (a + Ws.part b p) (b - Ws.part (a + Ws.part b p) q) p q) => unlose_is (by omega) (by omega) h
  generalize Ws.part b p = U at *
  generalize a + U = a1 at *
  generalize Ws.part a1 q = V at *
  generalize b - V = b1 at *
  generalize Ws.part b1 p = T at *
  generalize a1 + T = a2 at *
  have c1 := Lib.hid c1
  have c2 := Lib.hid c2
  have c3 := Lib.hid c3
  clear g1 g2 ha hb
  go_enter Try.func40, Try.ntmps40
  go_upto_region 2 with (go_at_call 44; (with_reducible refine q1.mono ?_); rintro e w8 ⟨rfl, hb8⟩; have HB8 := Lib.hid hb8; clear hb8 q1)
  have hP : Hid (Pr w (w8.alloc (.cells (((((pc 0 0 0 0).setIfInBounds 0 (.int .i64 a)).setIfInBounds 1 (.int .i64 b)).setIfInBounds 2 (.int .i64 p)).setIfInBounds 3 (.int .i64 q)) 73)) w8.heap.size a b p q) := ⟨heap_alloc_new w8 _, HB8.out.alloc HB8.out.size _, HB8.out.size⟩
  go_upto_region 6 with (fail)
  generalize w8.alloc (.cells (((((pc 0 0 0 0).setIfInBounds 0 (.int .i64 a)).setIfInBounds 1 (.int .i64 b)).setIfInBounds 2 (.int .i64 p)).setIfInBounds 3 (.int .i64 q)) 73) = W at *
  generalize w8.heap.size = g at *
  have d1 := c1.out _ _ _ hP.out
  clear HB8 hP c1 hz
  go_upto_region 9 with (first | (go_at_call 47; (with_reducible refine d1.mono ?_); rintro e W1 ⟨rfl, h1⟩; have d2 := c2.out _ _ _ h1; clear d1 h1) | (go_at_call 48; (with_reducible refine d2.mono ?_); rintro e W2 ⟨rfl, h2⟩; have d3 := c3.out _ _ _ h2; clear d2 h2) | (go_at_call 47; (with_reducible refine d3.mono ?_); rintro e W3 ⟨rfl, h3⟩; have l0 := h3.c0; have l1 := h3.c1; have HP3 := Lib.hid h3; clear d3 h3))
  have hAd : Hid (∀ n, Below w.heap.size w (W3.drewN n)) := fun n => below_drews HP3.out.below n
  go_quiet (fail)
  go_wp2
  go_ret2
  exact ⟨rfl, hAd.out _⟩
end Go.Proofs.Ythoemgiadadfcaa
