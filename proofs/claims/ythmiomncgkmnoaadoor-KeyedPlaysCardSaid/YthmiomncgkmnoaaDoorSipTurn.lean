/- A word turned, half a half of a round, a round: the walks of sip.Turn, mix, round. -/
import Derived.Test.YthmiomncgkmnoaaDoorProg
import Derived.Test.YthmiomncgkmnoaaDoorFoot
import Derived.Test.YthmiomncgkmnoaaDoorSipPure
import Derived.BigRegion
import Derived.BigQuiet
import Derived.StillTailTactics
import Derived.Deep.DeepFit
import Derived.Test.YthmiomncgkmnoaaDoorQuietTail
import Derived.Laws.Bits64
set_option linter.unusedVariables false
set_option linter.unusedSimpArgs false
namespace Go.Proofs.YthmiomncgkmnoaaDoor
open Go.RowKit Go.Sort Sip
theorem wrap_u64_nat (a : Nat) : IntKind.u64.wrap (a : Int) = ((a % 2 ^ 64 : Nat) : Int) := by
  rw [IntKind.wrap_u64, Int.natCast_emod]; rfl
theorem wraps_u64 (n : Int) (h₀ : 0 ≤ n) (h₁ : n < 2 ^ 64) : IntKind.u64.wrap n = n := by rw [IntKind.wrap_u64]; omega
theorem or_u64 (a b : Nat) (ha : a < 2 ^ 64) (hb : b < 2 ^ 64) : bits .or .u64 (a : Int) (b : Int) = ((a ||| b : Nat) : Int) := (bits_nat .u64 64 (by decide) wraps_u64 a b ha hb).2
theorem and_u64 (a b : Nat) (ha : a < 2 ^ 64) (hb : b < 2 ^ 64) : bits .and .u64 (a : Int) (b : Int) = ((a &&& b : Nat) : Int) := (bits_nat .u64 64 (by decide) wraps_u64 a b ha hb).1
theorem xor_u64 (a b : Nat) (ha : a < 2 ^ 64) (hb : b < 2 ^ 64) : bits .xor .u64 (a : Int) (b : Int) = ((a ^^^ b : Nat) : Int) := bits_xor_u64_nat a b ha hb
theorem p64 : (18446744073709551616 : Nat) = 2 ^ 64 := by rfl
theorem add_u64 (a b : Nat) : IntKind.u64.wrap ((a : Int) + (b : Int)) = ((add64 a b : Nat) : Int) := by
  rw [← Int.natCast_add, wrap_u64_nat]; rfl
def r64 (n : Int) : Nat := (n % 64).toNat
theorem r64_lt (n : Int) : r64 n < 64 := by unfold r64; omega
theorem turn_num (x q : Nat) (hx : x < 2 ^ 64) (hq : q < 64) : bits BinOp.or IntKind.u64 (IntKind.u64.wrap ((x : Int) * 2 ^ q)) ((x : Int) / 2 ^ (64 - q)) = ((rot q x : Nat) : Int) := by
  have e1 : (x : Int) * 2 ^ q = ((x * 2 ^ q : Nat) : Int) := by rw [Int.natCast_mul, Int.natCast_pow]; rfl
  have e2 : (x : Int) / 2 ^ (64 - q) = ((x / 2 ^ (64 - q) : Nat) : Int) := by rw [Int.natCast_ediv, Int.natCast_pow]; rfl
  rw [e1, e2, wrap_u64_nat, or_u64 _ _ (Nat.mod_lt _ (by decide)) (Nat.lt_of_le_of_lt (Nat.div_le_self _ _) hx), rot_or q x hx (by omega)]
set_option maxRecDepth 100000 in
theorem turn_is (x : Nat) (n : Int) (hx : x < 2 ^ 64) (w : World) : Calls Tryd.prog 20 #[.int .u64 x, .int .i64 n] w fun e w' => e = .returned (.int .u64 (rot (r64 n) x)) ∧ ∃ k, w' = w.drewN k := by
  obtain ⟨T, hT⟩ : ∃ T, T = Int.tmod n 64 := ⟨_, rfl⟩
  have h2 : -64 < T ∧ T < 64 ∧ (T + 64) % 64 = (r64 n : Nat) := by
    rw [hT, Int.tmod_eq_emod]; unfold r64
    split <;> omega
  obtain ⟨h2, h3, h4⟩ := h2
  have hq := r64_lt n
  obtain ⟨q, hqe⟩ : ∃ q, q = r64 n := ⟨_, rfl⟩
  rw [← hqe] at h4 hq
  rw [← hqe]
  have HN := Lib.hid (turn_num x q hx hq)
  have HX := Lib.hid hx
  rw [← p64] at hx
  have HT := Lib.hid hT.symm
  clear hqe hT
  have hT := HT.out
  go_enter Tryd.func20, Tryd.ntmps20
  go_wp2
  go_quiet (fail)
  go_wp2
  go_ret
  exact ⟨by rw [HN.out]; rfl, _, rfl⟩
theorem drew2 (w : World) (a b : Nat) : (w.drewN a).drewN b = w.drewN (a + b) := by
  unfold World.drewN; simp [Nat.add_assoc]
theorem setCell_drews (w : World) (a : Addr) (v : Value) (n : Nat) : (w.drew.drewN n).setCell a v = (w.setCell a v).drewN (1 + n) := by
  have e : ∀ m, (w.drewN m).setCell a v = (w.setCell a v).drewN m := fun _ => rfl
  rw [← e]
  have : w.drew.drewN n = w.drewN (1 + n) := by unfold World.drew World.drewN; simp [Nat.add_assoc]
  rw [this]
theorem turn_lit (x : Nat) (n : Nat) (hn : n < 64) (hx : x < 2 ^ 64) (w : World) : Calls Tryd.prog 20 #[.int .u64 x, .int .i64 n] w fun e w' => e = .returned (.int .u64 (rot n x)) ∧ ∃ k, w' = w.drewN k := by
  have := turn_is x n hx w
  rw [show r64 (n : Int) = n by unfold r64; omega] at this
  exact this
theorem quiet_of {f : FuncId} {args : Array Value} {w : World} {n : Nat} {v : Value} (h : Calls Tryd.prog f args (w.drewN n) fun e w' => e = .returned v ∧ ∃ k, w' = (w.drewN n).drewN k) :
    Calls Tryd.prog f args (w.drewN n) fun e w'' => e = .returned v ∧ ∃ m, w'' = w.drewN m :=
  h.mono fun _ _ ⟨he, k, hk⟩ => ⟨he, n + k, by rw [hk, drew2]⟩
set_option maxRecDepth 100000 in
theorem mix_is (w : World) (b i j n x y : Nat) (hi : i < 4) (hj : j < 4) (hne : i ≠ j) (hn : n < 64) (hx : x < 2 ^ 64) (hy : y < 2 ^ 64)
    (h1 : w.cell? ⟨b, i, none⟩ = some (.int .u64 x)) (f1 : w.frozen? ⟨b, i, none⟩ = false) (h2 : w.cell? ⟨b, j, none⟩ = some (.int .u64 y)) (f2 : w.frozen? ⟨b, j, none⟩ = false) :
    Calls Tryd.prog 48 #[.pointer (some ⟨b, 0, none⟩), .int .i64 i, .int .i64 j, .int .i64 n] w fun e w' => e = .returned (.tuple #[]) ∧
      ∃ k, w' = ((w.setCell ⟨b, i, none⟩ (.int .u64 (add64 x y))).setCell ⟨b, j, none⟩ (.int .u64 (rot n y ^^^ add64 x y : Nat))).drewN k := by
  have hxo := xor_u64 (rot n y) (add64 x y) (rot_lt n y hy) (add_lt x y)
  have HA := Lib.hid (add_u64 x y)
  have ht := fun w => turn_lit y n hn hy w
  have HXO := Lib.hid hxo
  clear hxo
  obtain ⟨X, hX⟩ : ∃ X, X = add64 x y := ⟨_, rfl⟩
  rw [← hX] at HA HXO
  rw [← hX]
  have HA' := HA.out
  clear HA hX hx hy
  obtain ⟨W1, hW1⟩ : ∃ W1, W1 = (w.setCell ⟨b, i, none⟩ (.int .u64 X)).drew := ⟨_, rfl⟩
  have g1 : W1.cell? ⟨b, i, none⟩ = some (.int .u64 X) := by rw [hW1]; exact World.cell?_setCell_same' _ _ _ (by rw [h1]; rfl)
  have g2 : W1.cell? ⟨b, j, none⟩ = some (.int .u64 y) := by
    rw [hW1]
    exact (World.cell?_setCell_other _ _ _ _ (by simp [hne])).trans h2
  have g3 : W1.frozen? ⟨b, j, none⟩ = false := by rw [hW1]; exact (World.frozen?_setCell _ _ _ _).trans f2
  go_enter Tryd.func48, Tryd.ntmps48
  go_wp2
  go_region
  rw [← hW1]
  have HW1 := Lib.hid hW1
  clear hW1 h1 f1 h2 f2 HA'
  go_wp2
  refine wp_region_quiet_tail 17 (by kernel_rfl) (by kernel_rfl) ?_
  simp only [List.take_succ_cons, List.take_zero, List.drop_succ_cons, List.drop_zero]
  repeat (go_big_quiet_step ((exact quiet_of (ht _))))
  refine wpQuiet_nil ?_
  intro _ hw'
  obtain ⟨nq, hw''⟩ := hw'
  subst hw''
  go_wp2
  go_end0
  refine ⟨rfl, 1 + nq, ?_⟩
  rw [HXO.out, HW1.out]
  exact setCell_drews _ _ _ _
end Go.Proofs.YthmiomncgkmnoaaDoor
