/- An angle's cosine and sine at any angle up to an eighth, its factors: their walks. -/
import Derived.Test.YthoemgiadadfcaaWsBelow
set_option linter.unusedVariables false
set_option linter.unusedSimpArgs false
namespace Go.Proofs.Ythoemgiadadfcaa
open Go.RowKit Go.Sort Ws
set_option maxRecDepth 100000 in
set_option maxHeartbeats 1600000 in
theorem trigTurn_is (k : Nat) (h1 : 1 ≤ k) (hk : k < 65) (w : World) : Calls Try.prog 49 #[.int .i64 k] w fun e w' => e = .returned (.tuple #[.int .i64 (bl k 7).1, .int .i64 (bl k 7).2]) ∧ Below w.heap.size w w' := by
  have q1 := halves_is w
  have q2 := Lib.hid fun w => below_is k hk w
  obtain ⟨X, hX⟩ : ∃ X, X = (bl k 7).1 := ⟨_, rfl⟩
  obtain ⟨Y, hY⟩ : ∃ Y, Y = (bl k 7).2 := ⟨_, rfl⟩
  rw [← hX, ← hY]
  have q2 : Hid (∀ w, Calls Try.prog 51 #[.int .i64 k, .agg (iv 14 hv)] w fun e w' => e = .returned (.agg #[.int .i64 X, .int .i64 Y]) ∧ Below w.heap.size w w') := by rw [hX, hY]; exact q2
  have e1 : (k : Int) % 512 = (k : Int) := by omega
  have e2 : ((k : Int) + 512) % 512 = (k : Int) := by omega
  have e3 : (k : Int) % 128 = (k : Int) := by omega
  have e4 : (k : Int) / 128 = 0 := by omega
  have e5 : Int.tmod (k : Int) 512 = (k : Int) := by rw [Int.tmod_eq_emod_of_nonneg (by omega)]; exact e1
  have e6 : Int.tmod ((k : Int) + 512) 512 = (k : Int) := by rw [Int.tmod_eq_emod_of_nonneg (by omega)]; exact e2
  have hz := zero58
  clear hX hY
  go_enter Try.func49, Try.ntmps49
  go_upto_region 2 with (fail)
  have hs2 : Hid ((Try.prog.info? 58).map (·.size) = some (#[Value.int .i64 X, .int .i64 Y]).size) := size58 fun _ => 0
  have hone : Hid ((#[Value.int .i64 X, .int .i64 Y]).all (·.oneCell') = true) := by show _ = _; simp [Value.oneCell']
  have hold : Hid ((iv 2 fun _ => 0).size = (#[Value.int .i64 X, .int .i64 Y]).size) := by show _ = _; rw [iv_size]; rfl
  go_upto_region 3 with (first | (go_at_call 52; (with_reducible refine q1.mono ?_); rintro e w8 ⟨rfl, hb8⟩; have HB8 := Lib.hid hb8; have q3 := q2.out w8; clear hb8 q1) | (go_at_call 51; (with_reducible refine q3.mono ?_); rintro e w9 ⟨rfl, hb9⟩; have HB9 := Lib.hid hb9; have hres : (w9.alloc (.cells (iv 2 fun _ => 0) 58)).heap[w9.heap.size]? = some (.cells (iv 2 fun _ => 0) 58 (0, 0)) := heap_alloc_new w9 _; clear hb9 q3) | (refine wpList_store_row rfl 58 _ _ rfl w9.heap.size #[.int .i64 X, .int .i64 Y] rfl rfl 58 _ hres hs2.out hold.out hone.out ?_))
  have hrow := setRow_heap (w9.alloc (.cells (iv 2 fun _ => 0) 58)) w9.heap.size (iv 2 fun _ => 0) #[.int .i64 X, .int .i64 Y] 58 (0, 0) hres
  have hb : Hid (Below w.heap.size w ((w9.alloc (.cells (iv 2 fun _ => 0) 58)).setRow w9.heap.size #[.int .i64 X, .int .i64 Y])) := by
    have b9 := HB8.out.trans (HB9.out.mono HB8.out.size)
    exact (Keep.setRow _ w9.heap.size _ [w9.heap.size] (by simp)).below (b9.alloc b9.size _) (by intro j hj; rw [List.mem_singleton] at hj; rw [hj]; exact b9.size)
  have l1 := cell_of_row _ _ 0 _ 58 (0, 0) hrow
  have l2 := cell_of_row _ _ 1 _ 58 (0, 0) hrow
  have l1 : _ = some (Value.int .i64 X) := l1
  have l2 : _ = some (Value.int .i64 Y) := l2
  generalize (w9.alloc (.cells (iv 2 fun _ => 0) 58)).setRow w9.heap.size #[.int .i64 X, .int .i64 Y] = W at *
  generalize w9.heap.size = g at *
  have hAd : Hid (∀ n, Below w.heap.size w (W.drewN n)) := fun n => below_drews hb.out n
  clear hrow HB8 HB9 hres hb
  go_quiet (fail)
  go_wp2
  go_loopw [5, 6, 21] (fun x y i wr => x = .int .i64 X ∧ y = .int .i64 Y ∧ i = .int .i64 0 ∧ Hid (Below w.heap.size w wr)) (fun x y i _ => 0)
  case atStart => exact ⟨rfl, rfl, rfl, hAd.out _⟩
  case round =>
    obtain ⟨rfl, rfl, rfl, hA⟩ := hrel
    go_wp2
    go_ret2
    exact ⟨rfl, hA.out⟩
/-- The walk of lift.Factors. -/
theorem factors_is (k : Nat) (hk : k < 65) (w : World) : Calls Try.prog 44 #[.int .i64 k] w fun e w' => e = .returned (.tuple #[.int .i64 (fp k), .int .i64 (fq k)]) ∧ Below w.heap.size w w' := by
  by_cases h1 : 1 ≤ k
  · have q1 := trigTurn_is k h1 hk w
    have hp : fp k = (((1073741824 - (bl k 7).1) * 32768) + (bl k 7).2 / 2) / (bl k 7).2 := by unfold fp; rw [if_neg (by omega)]
    have hq : fq k = ((bl k 7).2 + 16384) / 32768 := by unfold fq; rw [if_neg (by omega)]
    obtain ⟨a1, a2, a3, a4⟩ := bl_le k hk 7 (by omega)
    have hpos := bl_pos k hk h1
    rw [hp, hq]
    generalize (bl k 7).1 = X at *
    generalize (bl k 7).2 = Y at *
    clear hp hq
    have hd1 : Int.tdiv (((1073741824 - X) * 32768) + Y / 2) Y = (((1073741824 - X) * 32768) + Y / 2) / Y := Int.tdiv_eq_ediv_of_nonneg (by omega)
    have hql : -140737488355328 ≤ (((1073741824 - X) * 32768) + Y / 2) / Y ∧ (((1073741824 - X) * 32768) + Y / 2) / Y ≤ 140737488355328 := by
      have h0 : 0 ≤ ((1073741824 - X) * 32768) + Y / 2 := by omega
      constructor
      · have := Int.ediv_nonneg h0 (show 0 ≤ Y by omega); omega
      · have : (((1073741824 - X) * 32768) + Y / 2) / Y ≤ ((1073741824 - X) * 32768) + Y / 2 := Int.ediv_le_self _ h0
        omega
    obtain ⟨hql, hqu⟩ := hql
    have hk0 : decide ((k : Int) < 1) = false := decide_eq_false (by omega)
    have hk1 : decide ((64 : Int) < (k : Int)) = false := decide_eq_false (by omega)
    go_enter Try.func44, Try.ntmps44
    go_wp2_with (go_at_call 49; (with_reducible refine q1.mono ?_); rintro e w8 ⟨rfl, hb8⟩; have HB8 := Lib.hid hb8; clear hb8 q1)
    go_ret2
    exact ⟨by first | rfl | (rw [hd1]; rfl), HB8.out⟩
  · obtain rfl : k = 0 := by omega
    have hp : fp 0 = 0 := by unfold fp; rw [if_pos (by omega)]
    have hq : fq 0 = 0 := by unfold fq; rw [if_pos (by omega)]
    rw [hp, hq]
    clear hp hq
    go_enter Try.func44, Try.ntmps44
    go_wp2
    go_ret2
    exact ⟨rfl, Below.refl _ _⟩
end Go.Proofs.Ythoemgiadadfcaa
