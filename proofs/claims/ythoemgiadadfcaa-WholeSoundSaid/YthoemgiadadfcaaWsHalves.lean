/- The halves' cosines and sines: their walk. -/
import Derived.Test.YthoemgiadadfcaaWsTrig
set_option linter.unusedVariables false
set_option linter.unusedSimpArgs false
namespace Go.Proofs.Ythoemgiadadfcaa
open Go.RowKit Go.Sort Ws
namespace Ws
def hv (c : Nat) : Int := if c % 2 = 0 then hc (c / 2) else hn (c / 2)
def hf (j : Nat) : F := fun c => if 6 < c / 2 + j then hv c else 0
end Ws
theorem hf_zero : ∀ c, c < 14 → hf 0 c = 0 := fun c hc => by unfold hf; rw [if_neg (by omega)]
theorem hf_step (j I : Nat) (hI : I + j = 6) : hf (j + 1) = fun c => if c = I * 2 + 1 then hn I else if c = I * 2 then hc I else hf j c := by
  funext c
  unfold hf hv
  by_cases e1 : c = I * 2 + 1
  · subst e1
    rw [if_pos (by omega), if_neg (by omega), if_pos rfl]; congr 1; omega
  · rw [if_neg e1]
    by_cases e2 : c = I * 2
    · subst e2
      rw [if_pos (by omega), if_pos (by omega), if_pos rfl]; congr 1; omega
    · rw [if_neg e2]
      by_cases h : 6 < c / 2 + j
      · rw [if_pos h, if_pos (by omega)]
      · rw [if_neg h, if_neg (by omega)]
set_option maxRecDepth 100000 in
set_option maxHeartbeats 1600000 in
theorem halves_is (w : World) : Calls Try.prog 52 #[] w fun e w' => e = .returned (.agg (iv 14 hv)) ∧ Below w.heap.size w w' := by
  have hz := zero76
  have hR : Hid (Rc w ((w.alloc (.cells (iv 14 fun _ => 0) 76)).alloc (.cells (iv 14 fun _ => 0) 76)) w.heap.size (w.heap.size + 1) 76 14 (hf 0)) := by
    have h2 := Blk.new (w.alloc (.cells (iv 14 fun _ => 0) 76)) 76 14 fun _ => 0
    rw [World.size_alloc] at h2
    refine ⟨(Blk.new w 76 14 _).below ((Below.refl _ _).alloc (Nat.le_refl _) _), h2.congr fun i hi => (hf_zero i hi).symm, ((Below.refl _ _).alloc (Nat.le_refl _) _).alloc (by simp) _, ⟨by omega, by omega⟩, by omega⟩
  have h00 : hh 0 = 0 := rfl
  have H00 := Lib.hid h00
  clear h00
  go_enter Try.func52, Try.ntmps52
  go_upto_region 2 with (fail)
  generalize (w.alloc (.cells (iv 14 fun _ => 0) 76)).alloc (.cells (iv 14 fun _ => 0) 76) = W at *
  obtain ⟨c, hc0⟩ : ∃ c, c = w.heap.size + 1 := ⟨_, rfl⟩
  rw [← hc0] at hR
  rw [← hc0]
  clear hc0
  obtain ⟨r, hr0⟩ : ∃ r, r = w.heap.size := ⟨_, rfl⟩
  rw [← hr0] at hR
  rw [← hr0]
  clear hr0 hz
  go_wp2
  go_loopw [2, 3] (fun h i wr => ∃ j : Nat, j ≤ 7 ∧ h = .int .i64 (hh j : Nat) ∧ i = .int .i64 (6 - (j : Int)) ∧ Hid (Rc w wr r c 76 14 (hf j))) (fun h i _ => (intOf i + 1).toNat)
  case atStart => exact ⟨0, by omega, by rw [H00.out]; rfl, rfl, hR⟩
  case round =>
    clear hR
    obtain ⟨j, hj, rfl, rfl, hA⟩ := hrel
    obtain ⟨wo, rfl⟩ : ∃ wo : World, wo = wr := ⟨_, rfl⟩
    by_cases hlt : j < 7
    · obtain ⟨I, hI⟩ : ∃ I, I + j = 6 := ⟨6 - j, by omega⟩
      have hhl := hh_lt j (by omega)
      have hq := hc_eq j hlt
      rw [show 6 - j = I by omega] at hq
      have q1 := (root_is ((1073741824 + hh j) * 536870912) (by omega) (by omega) wo).mono (fun e w' h => (⟨h.1, h.2.symm⟩ : _ ∧ wo = w'))
      have q2 := (root_is ((1073741824 - hh j) * 536870912) (by omega) (by omega) wo).mono (fun e w' h => (⟨h.1, h.2.symm⟩ : _ ∧ wo = w'))
      have hsu : Hid (hh (j + 1) = root ((1073741824 + hh j) * 536870912)) := rfl
      have hs1 : Hid ((hh (j + 1) : Int) = hc I) := by show _ = _; rw [hsu.out]; exact hq.1
      rw [hq.1, show (((1073741824 + hh j) * 536870912 : Nat) : Int) = (1073741824 + (hh j : Int)) * 536870912 by omega] at q1
      rw [hq.2, show (((1073741824 - hh j) * 536870912 : Nat) : Int) = (1073741824 - (hh j : Int)) * 536870912 by omega] at q2
      rw [show 6 - (j : Int) = (I : Int) by omega]
      have hcl := hc_le I (by omega)
      have hst := Lib.hid (hf_step j I hI)
      clear hq hsu
      generalize hh j = h at *
      generalize hc I = x at *
      generalize hn I = y at *
      have hth := hA.out.cur.there (I * 2) 2 (by omega)
      have hdn : Hid ((I : Int) - 1 = 6 - ((j + 1 : Nat) : Int)) := by show _ = _; omega
      have hI6 : I ≤ 6 := by omega
      have hz2 := zero58
      have hs2 : Hid ((Try.prog.info? 58).map (·.size) = some (#[Value.int .i64 x, .int .i64 y]).size) := size58 fun _ => 0
      have hone : Hid ((#[Value.int .i64 x, .int .i64 y]).all (·.oneCell') = true) := by show _ = _; simp [Value.oneCell']
      have hN : Hid (Rc w (wo.setCells c (I * 2) [.int .i64 x, .int .i64 y]) r c 76 14 (hf (j + 1))) := by
        show Rc w _ r c 76 14 _
        rw [hst.out]
        exact (hA.out.set (I * 2) x).set (I * 2 + 1) y
      have hc7 : Hid (hf (j + 1) (I * 2) = x) := by show _ = _; rw [hst.out]; show (if _ then _ else _) = _; rw [if_neg (by omega), if_pos rfl]
      clear hA
      go_upto_region 7 with (first | (go_at_call 53; (with_reducible refine q1.mono ?_); rintro e w8 ⟨rfl, h8⟩; subst h8; clear q1) | (go_at_call 53; (with_reducible refine q2.mono ?_); rintro e w8 ⟨rfl, h8⟩; subst h8; clear q2) | (refine wpList_store_mid rfl 58 _ _ rfl c (I * 2) #[.int .i64 x, .int .i64 y] rfl rfl hth hs2.out hone.out ?_))
      generalize wo.setCells c (I * 2) [.int .i64 x, .int .i64 y] = W7 at *
      have l7 := hN.out.cur.cell (I * 2) (by omega)
      rw [hc7.out] at l7
      clear hth
      go_wp2
      go_roundw
      case rel => exact ⟨j + 1, by omega, by rw [hs1.out], by first | rw [hdn.out] | rw [← hdn.out], hN⟩
      case measure => first | (simp [intOf]; done) | (simp [intOf]; omega)
    · obtain rfl : j = 7 := by omega
      have hcg : iv 14 (hf 7) = iv 14 hv := iv_congr fun i hi => by unfold hf; rw [if_pos (by omega)]
      obtain ⟨C, hC⟩ : ∃ C, C = hv := ⟨_, rfl⟩
      have hA1 := hA.out.congr (g := C) fun i hi => by rw [hC]; unfold hf; rw [if_pos (by omega)]
      have hcur := hA1.cur
      have hres := hA1.res
      have HD := Lib.hid (hA1.done C)
      have hs5 := Lib.hid (size76 C)
      have hold : Hid ((iv 14 fun _ => 0).size = (iv 14 C).size) := by show _ = _; rw [iv_size, iv_size]
      have HC := Lib.hid hC
      unfold Blk at hcur hres
      clear hA hA1 hcg hC
      go_wp2_with (first | (refine wpList_load_row rfl 76 _ rfl c rfl 76 (iv 14 C) (0, 0) _ hcur Try.underlying76 rfl hs5.out ?_) | (refine wpList_store_row rfl 76 _ _ rfl r (iv 14 C) rfl rfl 76 _ hres hs5.out hold.out (iv_one 14 C) ?_))
      exact bodyPost_ret (v := .agg (iv 14 C)) (results_cell_row Try.results52 _ _ r 76 _ (0, 0) _ rfl HD.out.1 Try.underlying76 rfl hs5.out) rfl ⟨by rw [HC.out], HD.out.2⟩
end Go.Proofs.Ythoemgiadadfcaa
