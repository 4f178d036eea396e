/- A number's bits: the walks of keyed.bits and its function. -/
import Derived.Test.YthmiomncgkmnoaaDoorKeyAwake
import Derived.Laws.Bits64
set_option linter.unusedVariables false
set_option linter.unusedSimpArgs false
namespace Go.Proofs.YthmiomncgkmnoaaDoor
open Go.RowKit Go.Sort Sip Kd
theorem bit_u64 (x k : Nat) (hx : x < 2 ^ 64) : (bits BinOp.and IntKind.u64 ((x : Int) / 2 ^ k) 1 == 1) = x.testBit k := by
  have e : (x : Int) / 2 ^ k = ((x / 2 ^ k : Nat) : Int) := by rw [Int.natCast_ediv, Int.natCast_pow]; rfl
  have h := and_u64 (x / 2 ^ k) 1 (Nat.lt_of_le_of_lt (Nat.div_le_self _ _) hx) (by decide)
  rw [e, show (1 : Int) = ((1 : Nat) : Int) from rfl, h, Nat.and_one_is_mod, Nat.testBit_eq_decide_div_mod_eq]
  rw [Bool.eq_iff_iff]
  simp only [beq_iff_eq, decide_eq_true_eq]
  exact ⟨fun h => by omega, fun h => by omega⟩
theorem bit_is (x k : Nat) (hx : x < 2 ^ 64) (hk : k < 64) (g : Nat) (w : World) (h : w.cell? ⟨g, 0, none⟩ = some (.int .u64 (x : Nat))) :
    Calls Tryd.prog 49 #[.int .i64 k, .pointer (some ⟨g, 0, none⟩)] w fun e w' => e = .returned (.bool (x.testBit k)) ∧ w' = w := by
  have hbit := bit_u64 x k hx
  obtain ⟨T, hT⟩ : ∃ T, T = x.testBit k := ⟨_, rfl⟩
  rw [← hT] at hbit
  rw [← hT]
  clear hT
  go_enter Tryd.func49, Tryd.ntmps49
  go_wp2
  go_ret
  exact ⟨rfl, rfl⟩
theorem bits_is (x : Nat) (w : World) : Calls Tryd.prog 46 #[.int .u64 x] w fun e w' => e = .returned (.func (.func 49) #[] #[.pointer (some ⟨w.heap.size, 0, none⟩)]) ∧ w' = w.alloc (.cells #[.int .u64 x] 27) := by
  have hmf : ∀ (fn : Fn) (first cap : Array Value) (w : World), (Instr.makeFunc fn first cap).run Tryd.prog w = .ok (.func fn first cap) w := fun _ _ _ _ => rfl
  go_enter Tryd.func46, Tryd.ntmps46
  go_wp2
  go_ret
  exact ⟨rfl, rfl⟩
end Go.Proofs.YthmiomncgkmnoaaDoor
