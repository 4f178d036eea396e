/- An angle's cosine and sine, its factors: their walks. -/
import Derived.Test.YthoemgiadadfcaaWsHalves
set_option linter.unusedVariables false
set_option linter.unusedSimpArgs false
namespace Go.Proofs.Ythoemgiadadfcaa
open Go.RowKit Go.Sort Ws
theorem bit_and (k j : Nat) (hk : k < 2 ^ 63) : (bits BinOp.and IntKind.i64 ((k : Int) / 2 ^ j) 1 == 1) = decide (k / 2 ^ j % 2 = 1) := by
  have e : (k : Int) / 2 ^ j = ((k / 2 ^ j : Nat) : Int) := by rw [Int.natCast_ediv, Int.natCast_pow]; rfl
  have h := and_i64 (k / 2 ^ j) 1 (Nat.lt_of_le_of_lt (Nat.div_le_self _ _) hk) (by decide)
  rw [e, show (1 : Int) = ((1 : Nat) : Int) from rfl, h, Nat.and_one_is_mod]
  rw [Bool.eq_iff_iff]
  simp only [beq_iff_eq, decide_eq_true_eq]
  exact ⟨fun h => by omega, fun h => by omega⟩
/-- The table's box, the result's place. -/
structure Bw (w0 w : World) (b r : Nat) : Prop where
  tab : Blk w b 76 14 hv
  res : Blk w r 58 2 fun _ => 0
  below : Below w0.heap.size w0 w
  new : w0.heap.size ≤ r
theorem below_drews {w W : World} (h : Below w.heap.size w W) (n : Nat) : Below w.heap.size w (W.drewN n) := ⟨h.os, h.tape, h.output, h.size, h.block⟩
theorem Bw.drewN {w0 w : World} {b r : Nat} (h : Bw w0 w b r) (n : Nat) : Bw w0 (w.drewN n) b r := ⟨h.tab, h.res, below_drews h.below n, h.new⟩
theorem prod_le {x c : Int} (h1 : -1073741824 ≤ x) (h2 : x ≤ 1073741824) (h3 : 0 ≤ c) (h4 : c ≤ 1073741824) : -1152921504606846976 ≤ x * c ∧ x * c ≤ 1152921504606846976 := by
  have a1 : x * c ≤ 1073741824 * c := Int.mul_le_mul_of_nonneg_right h2 h3
  have a2 : (-1073741824) * c ≤ x * c := Int.mul_le_mul_of_nonneg_right h1 h3
  omega
set_option maxRecDepth 100000 in
set_option maxHeartbeats 1600000 in
theorem below_is (k : Nat) (hk : k < 65) (w : World) : Calls Try.prog 51 #[.int .i64 k, .agg (iv 14 hv)] w fun e w' => e = .returned (.agg #[.int .i64 (bl k 7).1, .int .i64 (bl k 7).2]) ∧ Below w.heap.size w w' := by
  have hz := zero58
  have hB : Hid (Bw w ((w.alloc (.cells (iv 14 hv) 76)).alloc (.cells (iv 2 fun _ => 0) 58)) w.heap.size (w.heap.size + 1)) := by
    have h2 := Blk.new (w.alloc (.cells (iv 14 hv) 76)) 58 2 fun _ => 0
    rw [World.size_alloc] at h2
    exact ⟨(Blk.new w 76 14 _).below ((Below.refl _ _).alloc (Nat.le_refl _) _), h2, ((Below.refl _ _).alloc (Nat.le_refl _) _).alloc (by simp) _, by omega⟩
  have hle := fun j hj => bl_le k hk j hj
  have HLE := Lib.hid hle
  obtain ⟨X, hX⟩ : ∃ X, X = (bl k 7).1 := ⟨_, rfl⟩
  obtain ⟨Y, hY⟩ : ∃ Y, Y = (bl k 7).2 := ⟨_, rfl⟩
  rw [← hX, ← hY]
  have HXY : Hid ((bl k 7).1 = X ∧ (bl k 7).2 = Y) := ⟨hX.symm, hY.symm⟩
  have h00 : Hid ((bl k 0).1 = 1073741824 ∧ (bl k 0).2 = 0) := ⟨rfl, rfl⟩
  obtain ⟨V, hV⟩ : ∃ V, V = iv 14 hv := ⟨_, rfl⟩
  rw [← hV] at hB
  rw [← hV]
  clear hle hX hY hV
  go_enter Try.func51, Try.ntmps51
  go_upto_region 1 with (fail)
  generalize (w.alloc (.cells V 76)).alloc (.cells (iv 2 fun _ => 0) 58) = W at *
  obtain ⟨r, hr0⟩ : ∃ r, r = w.heap.size + 1 := ⟨_, rfl⟩
  rw [← hr0] at hB
  rw [← hr0]
  clear hr0
  obtain ⟨b, hb0⟩ : ∃ b, b = w.heap.size := ⟨_, rfl⟩
  rw [← hb0] at hB
  rw [← hb0]
  clear hb0 hz
  go_wp2
  go_loopw [5, 6, 7] (fun x y i wr => ∃ j : Nat, j ≤ 7 ∧ x = .int .i64 (bl k j).1 ∧ y = .int .i64 (bl k j).2 ∧ i = .int .i64 (6 - (j : Int)) ∧ Hid (Bw w wr b r)) (fun x y i _ => (intOf i + 1).toNat)
  case atStart => exact ⟨0, by omega, by rw [h00.out.1], by rw [h00.out.2], rfl, hB⟩
  case round =>
    clear hB
    obtain ⟨j, hj, rfl, rfl, rfl, hA⟩ := hrel
    obtain ⟨wo, rfl⟩ : ∃ wo : World, wo = wr := ⟨_, rfl⟩
    by_cases hlt : j < 7
    · obtain ⟨I, hI⟩ : ∃ I, I + j = 6 := ⟨6 - j, by omega⟩
      have hIj : 6 - j = I := by omega
      have hcl := hc_le I (by omega)
      have l1 := hA.out.tab.cell (I * 2) (by omega)
      have l2 := hA.out.tab.cell (I * 2 + 1) (by omega)
      have v1 : hv (I * 2) = hc I := by unfold hv; rw [if_pos (by omega)]; congr 1; omega
      have v2 : hv (I * 2 + 1) = hn I := by unfold hv; rw [if_neg (by omega)]; congr 1; omega
      rw [v1] at l1
      rw [v2] at l2
      have hb1 : (bl k (j + 1)).1 = if k / 2 ^ I % 2 = 1 then ((bl k j).1 * hc I - (bl k j).2 * hn I + 536870912) / 1073741824 else (bl k j).1 := by
        rw [bl, hIj]; split <;> rfl
      have hb2 : (bl k (j + 1)).2 = if k / 2 ^ I % 2 = 1 then ((bl k j).1 * hn I + (bl k j).2 * hc I + 536870912) / 1073741824 else (bl k j).2 := by
        rw [bl, hIj]; split <;> rfl
      obtain ⟨a1, a2, a3, a4⟩ := HLE.out j (by omega)
      rw [show 6 - (j : Int) = (I : Int) by omega]
      have hdn : Hid ((I : Int) - 1 = 6 - ((j + 1 : Nat) : Int)) := by show _ = _; omega
      have hI6 : I ≤ 6 := by omega
      have hbt := bit_and k I (by omega)
      generalize (bl k j).1 = x at *
      generalize (bl k j).2 = y at *
      generalize hc I = c at *
      generalize hn I = s at *
      obtain ⟨d1, d2, d3, d4⟩ := hcl
      have p1 := prod_le a1 a2 d1 d2
      have p2 := prod_le a3 a4 d3 d4
      have p3 := prod_le a1 a2 d3 d4
      have p4 := prod_le a3 a4 d1 d2
      obtain ⟨p1, p1'⟩ := p1
      obtain ⟨p2, p2'⟩ := p2
      obtain ⟨p3, p3'⟩ := p3
      obtain ⟨p4, p4'⟩ := p4
      clear v1 v2 hIj
      by_cases hb : k / 2 ^ I % 2 = 1
      · rw [if_pos hb] at hb1 hb2
        rw [decide_eq_true hb] at hbt
        have hb1 := Lib.hid hb1
        have hb2 := Lib.hid hb2
        clear hb
        have hAd : Hid (∀ n, Bw w (wo.drewN n) b r) := fun n => hA.out.drewN n
        go_upto_region 6 with (fail)
        go_quiet (fail)
        go_wp2
        go_roundw
        case rel => exact ⟨j + 1, by omega, by rw [hb1.out], by rw [hb2.out], by first | rw [hdn.out] | rw [← hdn.out], hAd.out _⟩
        case measure => first | (simp [intOf]; done) | (simp [intOf]; omega)
      · rw [if_neg hb] at hb1 hb2
        rw [decide_eq_false hb] at hbt
        have hb1 := Lib.hid hb1
        have hb2 := Lib.hid hb2
        clear hb
        go_wp2
        go_roundw
        case rel => exact ⟨j + 1, by omega, by rw [hb1.out], by rw [hb2.out], by first | rw [hdn.out] | rw [← hdn.out], hA⟩
        case measure => first | (simp [intOf]; done) | (simp [intOf]; omega)
    · obtain rfl : j = 7 := by omega
      rw [HXY.out.1, HXY.out.2]
      have hres := hA.out.res
      have hs2 : Hid ((Try.prog.info? 58).map (·.size) = some (#[Value.int .i64 X, .int .i64 Y]).size) := size58 fun _ => 0
      have hone : Hid ((#[Value.int .i64 X, .int .i64 Y]).all (·.oneCell') = true) := by show _ = _; simp [Value.oneCell']
      have hold : Hid ((iv 2 fun _ => 0).size = (#[Value.int .i64 X, .int .i64 Y]).size) := by show _ = _; rw [iv_size]; rfl
      have HD : Hid ((wo.setRow r #[.int .i64 X, .int .i64 Y]).heap[r]? = some (.cells #[.int .i64 X, .int .i64 Y] 58 (0, 0)) ∧ Below w.heap.size w (wo.setRow r #[.int .i64 X, .int .i64 Y])) :=
        ⟨setRow_heap wo r _ _ 58 _ hA.out.res, (Keep.setRow wo r _ [r] (by simp)).below hA.out.below (by intro j hj; rw [List.mem_singleton] at hj; rw [hj]; exact hA.out.new)⟩
      have hz := zero58
      unfold Blk at hres
      clear hA
      go_wp2_with (refine wpList_store_row rfl 58 _ _ rfl r #[.int .i64 X, .int .i64 Y] rfl rfl 58 _ hres hs2.out hold.out hone.out ?_)
      exact bodyPost_ret (v := .agg #[.int .i64 X, .int .i64 Y]) (results_cell_row Try.results51 _ _ r 58 _ (0, 0) _ rfl HD.out.1 Try.underlying58 rfl hs2.out) rfl ⟨rfl, HD.out.2⟩
end Go.Proofs.Ythoemgiadadfcaa
