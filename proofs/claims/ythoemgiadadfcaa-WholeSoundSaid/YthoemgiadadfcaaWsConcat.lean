/- Lists one behind the other, and whether something of them is too great: the walks of slices.Grow, Concat, mid.great. -/
import Derived.Test.YthoemgiadadfcaaWsMid
import Derived.Test.YthoemgiadadfcaaAppendRow
import Derived.Lib.AppendZeros
set_option linter.unusedVariables false
set_option linter.unusedSimpArgs false
namespace Go.Proofs.Ythoemgiadadfcaa
open Go.RowKit Go.Sort Ws
theorem info3 : (Try.prog.info? 3).map (fun i => (i.zero, i.size, i.bytes)) = some (some (.int .i64 0), 1, 8) := by kernel_rfl
set_option maxRecDepth 100000 in
set_option maxHeartbeats 1600000 in
theorem grow_is (n : Nat) (hn : n ≤ 1000000) (w : World) : Calls Try.prog 37 #[.slice none 0 0, .int .i64 n] w fun e w' => ∃ v, e = .returned v ∧ Own w' 3 .i64 v [] ∧ Below w.heap.size w w' ∧ ∀ j ∈ foot v, w.heap.size ≤ j := by
  by_cases h0 : n = 0
  · subst h0
    go_enter Try.func37, Try.ntmps37
    go_wp2
    go_ret
    exact ⟨_, rfl, Own.nil _ _ _, Below.refl _ _, by simp [foot_nil]⟩
  · obtain ⟨i0, hi, hzz⟩ := Option.map_eq_some_iff.1 info3
    simp only [Prod.mk.injEq] at hzz
    obtain ⟨hz0, hz1, hz2⟩ := hzz
    have hr := fun ty => Lib.run_append_nil_zeros (P := Try.prog) w 22 3 ty 3 i0 _ .i64 .i64 Try.underlying22 Try.underlying3 hi hz0 n (by omega) (by omega) (by omega) (by rw [hz2]; omega)
    obtain ⟨G, hG⟩ : ∃ G, G = grownCap w n 0 3 := ⟨_, rfl⟩
    have hGn : n ≤ G := by rw [hG]; exact grownCap_ge _ _ _ _
    have hGm : G ≤ maxLen := by rw [hG]; exact grownCap_le_maxLen _ _ _ _ (by simp only [maxLen]; omega)
    have hGm2 : (G : Int) ≤ 9223372036854775807 := by simp only [maxLen] at hGm; omega
    obtain ⟨cs, hcs⟩ : ∃ cs, cs = Builtin.zeroCells (Value.int .i64 0).cells n ++ Builtin.zeroCells (Value.int .i64 0).cells (G - n) := ⟨_, rfl⟩
    have hsz : cs.size = G := by rw [hcs, Array.size_append, size_zeroCells, size_zeroCells]; show n * 1 + (G - n) * 1 = G; omega
    rw [← hG, ← hcs] at hr
    have HR := Lib.hid hr
    have hown : Hid (Own (w.drew.alloc (.cells cs 3)) 3 .i64 (.slice (some ⟨w.heap.size, 0, none⟩) 0 G) []) := ⟨rfl, .inr ⟨w.heap.size, G, cs, rfl, Nat.zero_le _, heap_alloc_new w.drew _, Nat.zero_le _, hGm, by rw [hsz]; omega, rfl⟩⟩
    have hbw : Hid (Below w.heap.size w (w.drew.alloc (.cells cs 3))) := by
      have hb : Below w.drew.heap.size w.drew (w.drew.alloc (.cells cs 3)) := (Below.refl _ _).alloc (Nat.le_refl _) _
      exact ⟨hb.os, hb.tape, hb.output, hb.size, hb.block⟩
    have hnp : (0 : Int) < (n : Int) := by omega
    clear hr hG hcs hi hz0 hz1 hz2 hGm
    go_enter Try.func37, Try.ntmps37
    go_wp2_with (at_builtin; refine Lib.wpList_append_run _ rfl _ _ 22 3 rfl _ _ rfl rfl _ _ (HR.out _) ?_)
    go_ret
    exact ⟨_, rfl, hown.out, hbw.out, by intro j hj; simp [foot, Value.ownBlock] at hj; omega⟩
namespace Ws
def szK (L : Nat → List Int) : Nat → Nat
  | 0 => 0
  | k + 1 => szK L k + (L k).length
def flK (L : Nat → List Int) : Nat → List Int
  | 0 => []
  | k + 1 => flK L k ++ L k
end Ws
theorem flK_length (L : Nat → List Int) : ∀ k, (flK L k).length = szK L k
  | 0 => rfl
  | k + 1 => by rw [flK, szK, List.length_append, flK_length L k]
theorem szK_le (L : Nat → List Int) (h : ∀ i, (L i).length ≤ 10000) : ∀ k, szK L k ≤ k * 10000
  | 0 => Nat.le_refl _
  | k + 1 => by rw [szK]; have := szK_le L h k; have := h k; omega
/-- K lists in a row at p. -/
structure Ls (w : World) (p K : Nat) (V : Nat → Value) (L : Nat → List Int) : Prop where
  cell : ∀ i, i < K → w.cell? ⟨p, i, none⟩ = some (V i)
  own : ∀ i, i < K → Own w 3 .i64 (V i) (L i)
  lt : p < w.heap.size
theorem Ls.below {w w' : World} {p K : Nat} {V : Nat → Value} {L : Nat → List Int} (h : Ls w p K V L) (hb : Below w.heap.size w w') : Ls w' p K V L :=
  ⟨fun i hi => (hb.cell (p := ⟨p, i, none⟩) h.lt).trans (h.cell i hi), fun i hi => (h.own i hi).below hb, Nat.lt_of_lt_of_le h.lt hb.size⟩
set_option maxRecDepth 100000 in
set_option maxHeartbeats 3200000 in
theorem concat_is (p K : Nat) (V : Nat → Value) (L : Nat → List Int) (w : World) (h : Ls w p K V L) (hK : K ≤ 2) (hL : ∀ i, (L i).length ≤ 10000) :
    Calls Try.prog 22 #[.slice (some ⟨p, 0, none⟩) K K] w fun e w' => ∃ v, e = .returned v ∧ Own w' 3 .i64 v (flK L K) ∧ Below w.heap.size w w' := by
  have hg := grow_is (szK L K) (by have := szK_le L hL K; omega) w
  have H := Lib.hid h
  have HL := Lib.hid hL
  have hS := Lib.hid (szK_le L hL)
  clear h hL
  go_enter Try.func22, Try.ntmps22
  go_wp2
  go_loopw [3, 11] (fun s i wr => wr = w ∧ ∃ k : Nat, k ≤ K ∧ s = .int .i64 (szK L k : Nat) ∧ i = .int .i64 k) (fun s i _ => K - (intOf i).toNat)
  case atStart => exact ⟨rfl, 0, by omega, rfl, rfl⟩
  case round =>
    obtain ⟨hw, k, hk, rfl, rfl⟩ := hrel
    have hw := hw.symm
    subst hw
    by_cases hlt : k < K
    · have l0 := H.out.cell k hlt
      obtain ⟨a, cap, hv⟩ := (H.out.own k hlt).shape
      rw [hv] at l0
      have hl := HL.out k
      have hsz : Hid (szK L (k + 1) = szK L k + (L k).length) := rfl
      have hs := hS.out k
      have hs2 : szK L k ≤ 20000 := by omega
      have hkK : (k : Int) < (K : Int) := by omega
      generalize (L k).length = n at *
      generalize szK L k = s at *
      clear hv
      go_wp2
      go_roundw
      case rel => exact ⟨by first | trivial | rfl, k + 1, by omega, by rw [hsz.out]; go_num, by go_num⟩
      case measure => simp [intOf]; omega
    · obtain rfl : K = k := by omega
      go_wp2_with (go_at_call 37; (with_reducible refine hg.mono ?_); rintro e w8 ⟨v8, rfl, ho8, hb8, hf8⟩; have hO0 : Hid (Own w8 3 .i64 v8 (flK L 0) ∧ Below w.heap.size w w8 ∧ ∀ j ∈ foot v8, w.heap.size ≤ j) := ⟨ho8, hb8, hf8⟩; clear hg ho8 hb8 hf8)
      go_loopw [6, 27] (fun v i w9 => ∃ k : Nat, k ≤ K ∧ i = .int .i64 k ∧ Hid (Own w9 3 .i64 v (flK L k) ∧ Below w.heap.size w w9 ∧ ∀ j ∈ foot v, w.heap.size ≤ j)) (fun v i _ => K - (intOf i).toNat)
      case atStart => exact ⟨0, by omega, rfl, hO0⟩
      case round =>
        clear hO0
        obtain ⟨k, hk, rfl, hA⟩ := hrel
        obtain ⟨wo, rfl⟩ : ∃ wo : World, wo = wr := ⟨_, rfl⟩
        by_cases hlt : k < K
        · have hLs := H.out.below hA.out.2.1
          have l0 := hLs.cell k hlt
          have HO := Lib.hid hA.out.1
          have HV := Lib.hid (hLs.own k hlt)
          have hkK : (k : Int) < (K : Int) := by omega
          have hlen : Hid (((flK L k).length + (L k).length) * 8 ≤ 140737488355328) := by
            show _ ≤ _
            rw [flK_length]
            have := hS.out k
            have := HL.out k
            omega
          have hN : Hid (∀ v1 w1, Own w1 3 .i64 v1 (flK L k ++ L k) → Keep wo w1 (foot u6) → (∀ j ∈ foot v1, j ∈ foot u6 ∨ wo.heap.size ≤ j) → Own w1 3 .i64 v1 (flK L (k + 1)) ∧ Below w.heap.size w w1 ∧ ∀ j ∈ foot v1, w.heap.size ≤ j) := fun v1 w1 h1 h2 h3 =>
            ⟨h1, h2.below hA.out.2.1 hA.out.2.2, fun j hj => by
              rcases h3 j hj with h4 | h4
              · exact hA.out.2.2 j h4
              · have := hA.out.2.1.size; omega⟩
          clear hLs hA
          go_wp2_with (at_builtin; refine append_row rfl _ _ 22 3 .i64 8 rfl Try.underlying22 info3 (by decide) u6 (V k) (flK L k) (L k) rfl rfl HO.out HV.out hlen.out ?_; intro v1 w1 h1 h2 h3; have hN1 := Lib.hid (hN.out v1 w1 h1 h2 h3); clear h1 h2 h3)
          go_roundw
          case rel => exact ⟨k + 1, by omega, by go_num, hN1⟩
          case measure => simp [intOf]; omega
        · obtain rfl : K = k := by omega
          have hfin := Lib.hid hA.out
          clear hA
          go_wp2
          go_ret
          exact ⟨_, rfl, hfin.out.1, hfin.out.2.1⟩
set_option maxRecDepth 100000 in
set_option maxHeartbeats 3200000 in
/-- mid.great, where nothing is. -/
theorem mgreat_is (m : Int) (hm : 0 ≤ m ∧ m ≤ 1073741824) (p K : Nat) (V : Nat → Value) (L : Nat → List Int) (w : World) (h : Ls w p K V L) (hK : K ≤ 2) (hL : ∀ i, (L i).length ≤ 10000) (hx : ∀ x ∈ flK L K, -m ≤ x ∧ x ≤ m) :
    Calls Try.prog 10 #[.int .i64 m, .slice (some ⟨p, 0, none⟩) K K] w fun e w' => e = .returned (.bool false) ∧ Below w.heap.size w w' := by
  have hb1 : Below w.heap.size w (w.alloc (.cells #[.int .i64 m] 3)) := (Below.refl _ _).alloc (Nat.le_refl _) _
  have hc := concat_is p K V L _ (h.below hb1) hK hL
  have hcell : (w.alloc (.cells #[.int .i64 m] 3)).cell? ⟨w.heap.size, 0, none⟩ = some (.int .i64 m) := cell_of_row _ _ 0 _ 3 (0, 0) (heap_alloc_new w _)
  have hlen : (flK L K).length ≤ 1099511627776 := by rw [flK_length]; have := szK_le L hL K; omega
  have hct : Hid (∀ v w8, Own w8 3 .i64 v (flK L K) → Below (w.alloc (.cells #[.int .i64 m] 3)).heap.size (w.alloc (.cells #[.int .i64 m] 3)) w8 → Calls Try.prog 13 #[v, .func (.func 23) #[] #[.pointer (some ⟨w.heap.size, 0, none⟩)]] w8 fun e w' => e = .returned (.bool false) ∧ w8 = w') := fun v w8 ho hb =>
    (contains_23 w.heap.size v _ w8 (Rd.own ho) hlen fun x hxm => great2_is m x _ hm (hx x hxm).1 (hx x hxm).2 w8 ((hb.cell (p := ⟨w.heap.size, 0, none⟩) (by simp)).trans hcell)).mono (fun e w' h => ⟨h.1, h.2.symm⟩)
  have hB1 := Lib.hid hb1
  have hmf : ∀ (fn : Fn) (first cap : Array Value) (w : World), (Instr.makeFunc fn first cap).run Try.prog w = .ok (.func fn first cap) w := fun _ _ _ _ => rfl
  clear h hL hx hb1 hcell hlen hm
  go_enter Try.func10, Try.ntmps10
  go_wp2_with (first | (go_at_call 22; (with_reducible refine hc.mono ?_); rintro e w8 ⟨v8, rfl, ho8, hb8⟩; have q13 := hct.out v8 w8 ho8 hb8; have HB8 := Lib.hid hb8; clear hc ho8 hb8) | (go_at_call 13; (with_reducible refine q13.mono ?_); rintro e w9 ⟨rfl, h9⟩; subst h9; clear q13))
  go_ret
  exact ⟨rfl, hB1.out.trans (HB8.out.mono hB1.out.size)⟩
end Go.Proofs.Ythoemgiadadfcaa
