/- The law KeyedBands: its walk. -/
import Derived.Test.YthmiomncgkmnoaaDoorKeyOrders
set_option linter.unusedVariables false
set_option linter.unusedSimpArgs false
namespace Go.Proofs.YthmiomncgkmnoaaDoor
open Go.RowKit Go.Sort Sip Kd
/-- The key at b; a row v that grows; a row v2 beside it. -/
structure Kb (w0 w : World) (b : Nat) (kl : List Nat) (v : Value) (l : List Nat) (v2 : Value) (l2 : List Nat) : Prop where
  key : w.heap[b]? = some (.cells (keyV kl) 23 (0, 0))
  own : Own w 3 .i64 v (casts l)
  own2 : Own w 3 .i64 v2 (casts l2)
  below : Below w0.heap.size w0 w
  news : ∀ j ∈ foot v, w0.heap.size ≤ j ∧ j ≠ b
  news2 : ∀ j ∈ foot v2, w0.heap.size ≤ j ∧ j ≠ b
  apart : ∀ j ∈ foot v, j ∉ foot v2
theorem Kb.swap {w0 w : World} {b : Nat} {kl : List Nat} {v v2 : Value} {l l2 : List Nat} (h : Kb w0 w b kl v l v2 l2) : Kb w0 w b kl v2 l2 v l :=
  ⟨h.key, h.own2, h.own, h.below, h.news2, h.news, fun j hj hj2 => h.apart j hj2 hj⟩
theorem Kb.later {w0 w w' : World} {b : Nat} {kl : List Nat} {v v2 : Value} {l l2 : List Nat} (h : Kb w0 w b kl v l v2 l2) (hb : Below w.heap.size w w') : Kb w0 w' b kl v l v2 l2 :=
  ⟨(hb.block b (Array.getElem?_eq_some_iff.1 h.key).1).trans h.key, h.own.below hb, h.own2.below hb, h.below.trans (hb.mono h.below.size), h.news, h.news2, h.apart⟩
theorem Kb.push {w0 w w1 : World} {b g cap q : Nat} {kl : List Nat} {v v2 : Value} {l l2 : List Nat} (h : Kb w0 w b kl v l v2 l2)
    (ho : Own w1 3 .i64 (.slice (some ⟨g, 0, none⟩) (casts l ++ [(q : Int)]).length cap) (casts l ++ [(q : Int)])) (hk : Keep w w1 (foot v)) (hf : g ∈ foot v ∨ w.heap.size ≤ g) :
    Kb w0 w1 b kl (.slice (some ⟨g, 0, none⟩) ((casts l).length + 1) cap) (l ++ [q]) v2 l2 := by
  have e : (casts l).length + 1 = (casts l ++ [(q : Int)]).length := by rw [List.length_append]; rfl
  have hb := (Array.getElem?_eq_some_iff.1 h.key).1
  rw [e]
  refine ⟨?_, by rw [← casts_snoc]; exact ho, h.own2.keep hk (fun j hj hj2 => h.apart j hj2 hj), hk.below h.below fun j hj => (h.news j hj).1, ?_, h.news2, ?_⟩
  · rw [hk.block b hb fun hj => (h.news b hj).2 rfl]; exact h.key
  · intro j hj
    rw [foot_slice, List.mem_singleton] at hj
    subst hj
    rcases hf with h1 | h1
    · exact h.news _ h1
    · have := h.below.size; exact ⟨by omega, by omega⟩
  · intro j hj hj2
    rw [foot_slice, List.mem_singleton] at hj
    subst hj
    rcases hf with h1 | h1
    · exact h.apart _ h1 hj2
    · have := h.own2.lt _ hj2; omega
theorem fr_band (F : Int) (i : Nat) (hi : i < 8) : fr (F * 8 + i) / 8 = (F % 127).toNat ∧ fr (F * 8 + i) % 8 = i := by unfold fr; omega
theorem fr_place (F : Int) (i : Nat) (hi : i < 127) : fr (F * 1016 + i) % 127 = i := by unfold fr; omega
theorem take_snoc (l : List Nat) (k : Nat) (h : k < l.length) : l.take k ++ [l.getD k 0] = l.take (k + 1) := by
  rw [List.take_succ_eq_append_getElem h, List.getD_eq_getElem?_getD, List.getElem?_eq_getElem h]; rfl
set_option maxRecDepth 100000 in
set_option maxHeartbeats 3200000 in
theorem keyedBands_walk (kl : List Nat) (n : Int) (w : World) (hk : kl.length = 16) (hb : Bytes kl) (hn : (Lit.int .i64 n).wf = true) (hg : Signs w) :
    Calls Tryd.prog 10 #[.agg (keyV kl), .int .i64 n] w fun e w' => e = .returned (.bool true) ∧ Below w.heap.size w w' := by
  have h0 : Hid ((w.alloc (.cells (keyV kl) 23)).heap[w.heap.size]? = some (.cells (keyV kl) 23 (0, 0))) := heap_alloc_new w _
  have hw0 : Hid (Below w.heap.size w (w.alloc (.cells (keyV kl) 23))) := (Below.refl _ _).alloc (Nat.le_refl _) _
  have hG : Hid (Signs (w.alloc (.cells (keyV kl) 23))) := hg.below hw0.out
  have HG0 := Lib.hid hg
  have hsz := Lib.hid (size23 kl hk)
  have ha := keyAwake_is (w.alloc (.cells (keyV kl) 23)) hG.out
  obtain ⟨F, hF⟩ : ∃ F, F = Int.tmod n 1000000 := ⟨_, rfl⟩
  have hF1 : -1000000 < F ∧ F < 1000000 := by
    rw [hF, Int.tmod_eq_emod]
    split <;> omega
  have hF2 : Int.tmod n 1000000 = F := hF.symm
  obtain ⟨hFa, hFb⟩ := hF1
  obtain ⟨L1, hL1⟩ : ∃ L, L = ord kl (128 + (F % 127).toNat) 8 := ⟨_, rfl⟩
  obtain ⟨L2, hL2⟩ : ∃ L, L = ord kl 112 127 := ⟨_, rfl⟩
  have hl1 : Hid (L1.length = 8) := by show L1.length = 8; rw [hL1]; exact ord_length _ _ _
  have hl2 : Hid (L2.length = 127) := by show L2.length = 127; rw [hL2]; exact ord_length _ _ _
  have ho1 : Hid (Once L1 8) := by show Once L1 8; rw [hL1]; exact once_ord _ _ _ (by omega)
  have ho2 : Hid (Once L2 127) := by show Once L2 127; rw [hL2]; exact once_ord _ _ _ (by omega)
  have c1 : Hid (∀ (i : Nat) w, i < 8 → Signs w → Calls Tryd.prog 29 #[.agg (keyV kl), .int .i64 (F * 8 + i)] w fun e w' => e = .returned (.int .i64 (L1.getD i 0 : Nat)) ∧ Below w.heap.size w w') := fun i w hi hg => by
    have := band_is kl hk hb (F * 8 + i) w hg
    rw [(fr_band F i hi).1, (fr_band F i hi).2, ← hL1] at this
    exact this
  have c2 : Hid (∀ (i : Nat) w, i < 127 → Signs w → Calls Tryd.prog 30 #[.agg (keyV kl), .int .i64 (F * 1016 + i)] w fun e w' => e = .returned (.int .i64 (L2.getD i 0 : Nat)) ∧ Below w.heap.size w w') := fun i w hi hg => by
    have := place_is kl hk hb (F * 1016 + i) w hg
    rw [fr_place F i hi, ← hL2] at this
    exact this
  clear hk hb hn hg hF hL1 hL2
  go_enter Tryd.func10, Tryd.ntmps10
  go_upto_region 1 with (fail)
  generalize w.alloc (.cells (keyV kl) 23) = W at *
  obtain ⟨b, hb0⟩ : ∃ b, b = w.heap.size := ⟨_, rfl⟩
  rw [← hb0] at h0
  rw [← hb0]
  clear hb0
  go_upto_region 3 with (go_at_call 26; (with_reducible refine ha.mono ?_); rintro e w1 ⟨rfl, hb1⟩; have HB1 := Lib.hid hb1; clear hb1 ha)
  have hK0 : Hid (Kb w w1 b kl (.slice none 0 0) (L1.take 0) (.slice none 0 0) (L2.take 0)) := by
    refine ⟨(HB1.out.block b (Array.getElem?_eq_some_iff.1 h0.out).1).trans h0.out, Own.nil _ _ _, Own.nil _ _ _, hw0.out.trans (HB1.out.mono hw0.out.size), ?_, ?_, ?_⟩ <;> simp [foot_nil]
  clear h0 hw0 hG HB1
  go_wp2
  go_loopw [6, 8] (fun v i wr => ∃ k : Nat, k ≤ 8 ∧ i = .int .i64 k ∧ Hid (Kb w wr b kl v (L1.take k) (.slice none 0 0) (L2.take 0))) (fun _ i _ => 8 - (intOf i).toNat)
  case atStart => exact ⟨0, by omega, rfl, hK0⟩
  case round =>
    clear hK0
    obtain ⟨k, hk, rfl, hA⟩ := hrel
    obtain ⟨wo, rfl⟩ : ∃ wo : World, wo = wr := ⟨_, rfl⟩
    by_cases hlt : k < 8
    · have hq := c1.out k wo hlt (HG0.out.below hA.out.below)
      have hts := take_snoc L1 k (by rw [hl1.out]; exact hlt)
      obtain ⟨X, hX⟩ : ∃ X, X = L1.getD k 0 := ⟨_, rfl⟩
      rw [← hX] at hq hts
      have HTS := Lib.hid hts
      have hkey := Lib.hid hA.out.key
      have hbnd : Hid (((casts (L1.take k)).length + 1) * 8 ≤ 140737488355328) := by
        show ((casts (L1.take k)).length + 1) * 8 ≤ 140737488355328
        rw [casts_length, List.length_take]; omega
      clear hX hts
      go_wp2_with (first | (refine wpList_load_row rfl 23 (.tmp 2) rfl b rfl 23 (keyV kl) (0, 0) _ hkey.out Tryd.underlying23 rfl hsz.out ?_) | (go_at_call 29; (with_reducible refine hq.mono ?_); rintro e w8 ⟨rfl, hb8⟩; have hA8 := Lib.hid (hA.out.later hb8); have HO := Lib.hid hA8.out.own; clear hb8 hq) | (at_builtin; refine append_one rfl _ _ 41 3 .i64 8 rfl Tryd.underlying41 info3 (by decide) u6 (casts (L1.take k)) (X : Int) rfl rfl HO.out hbnd.out ?_; intro g3 c3 w3 ho3 hk3 hf3; have hs3 := Lib.hid (hA8.out.push ho3 hk3 hf3); clear ho3 hk3 hf3))
      go_roundw
      case rel => exact ⟨k + 1, by omega, by go_num, by rw [← HTS.out]; exact hs3⟩
      case measure => simp [intOf]; omega
    · rw [show (k : Int) = 8 by omega]
      obtain rfl : k = 8 := by omega
      have hK1 : Hid (Kb w wo b kl (.slice none 0 0) (L2.take 0) u6 L1) := by
        have := hA.out.swap
        rw [show L1.take 8 = L1 from List.take_of_length_le (by rw [hl1.out]; omega)] at this
        exact this
      clear hA
      go_wp2
      go_loopw [7, 9] (fun v i wr => ∃ k : Nat, k ≤ 127 ∧ i = .int .i64 k ∧ Hid (Kb w wr b kl v (L2.take k) u6 L1)) (fun _ i _ => 127 - (intOf i).toNat)
      case atStart => exact ⟨0, by omega, rfl, hK1⟩
      case round =>
        clear hK1
        obtain ⟨k, hk, rfl, hA⟩ := hrel
        obtain ⟨wo, rfl⟩ : ∃ wo : World, wo = wr := ⟨_, rfl⟩
        by_cases hlt : k < 127
        · have hq := c2.out k wo hlt (HG0.out.below hA.out.below)
          have hts := take_snoc L2 k (by rw [hl2.out]; exact hlt)
          obtain ⟨X, hX⟩ : ∃ X, X = L2.getD k 0 := ⟨_, rfl⟩
          rw [← hX] at hq hts
          have HTS := Lib.hid hts
          have hkey := Lib.hid hA.out.key
          have hbnd : Hid (((casts (L2.take k)).length + 1) * 8 ≤ 140737488355328) := by
            show ((casts (L2.take k)).length + 1) * 8 ≤ 140737488355328
            rw [casts_length, List.length_take]; omega
          clear hX hts
          go_wp2_with (first | (refine wpList_load_row rfl 23 (.tmp 2) rfl b rfl 23 (keyV kl) (0, 0) _ hkey.out Tryd.underlying23 rfl hsz.out ?_) | (go_at_call 30; (with_reducible refine hq.mono ?_); rintro e w8 ⟨rfl, hb8⟩; have hA8 := Lib.hid (hA.out.later hb8); have HO := Lib.hid hA8.out.own; clear hb8 hq) | (at_builtin; refine append_one rfl _ _ 41 3 .i64 8 rfl Tryd.underlying41 info3 (by decide) u7 (casts (L2.take k)) (X : Int) rfl rfl HO.out hbnd.out ?_; intro g3 c3 w3 ho3 hk3 hf3; have hs3 := Lib.hid (hA8.out.push ho3 hk3 hf3); clear ho3 hk3 hf3))
          go_roundw
          case rel => exact ⟨k + 1, by omega, by go_num, by rw [← HTS.out]; exact hs3⟩
          case measure => simp [intOf]; omega
        · rw [show (k : Int) = 127 by omega]
          obtain rfl : k = 127 := by omega
          have hK2 := hA.out
          rw [show L2.take 127 = L2 from List.take_of_length_le (by rw [hl2.out]; omega)] at hK2
          have n1 : (casts L1).length = 8 := by rw [casts_length]; exact hl1.out
          have n2 : (casts L2).length = 127 := by rw [casts_length]; exact hl2.out
          obtain ⟨g1, cap1, e1⟩ := hK2.own2.form (by rw [n1]; omega)
          obtain ⟨g2, cap2, e2⟩ := hK2.own.form (by rw [n2]; omega)
          have o1 := hK2.own2
          have o2 := hK2.own
          have hbw := Lib.hid hK2.below
          subst e1
          subst e2
          have q1 := once_is g1 cap1 8 L1 (by omega) ho1.out wo (o1.lt g1 (by simp [foot, Value.ownBlock])) (fun i hi => by
            have := o1.at_ i (by rw [n1]; exact hi)
            rw [casts_get] at this
            exact this)
          have q2 : ∀ w', Below wo.heap.size wo w' → Calls Tryd.prog 28 #[.slice (some ⟨g2, 0, none⟩) 127 cap2, .int .i64 127] w' fun e w'' => e = .returned (.bool true) ∧ Below w'.heap.size w' w'' := fun w' hb' => once_is g2 cap2 127 L2 (by omega) ho2.out w' ((o2.below hb').lt g2 (by simp [foot, Value.ownBlock])) (fun i hi => by
            have := (o2.below hb').at_ i (by rw [n2]; exact hi)
            rw [casts_get] at this
            exact this)
          have q1' : Calls Tryd.prog 28 #[.slice (some ⟨g1, 0, none⟩) 8 cap1, .int .i64 8] wo fun e w'' => e = .returned (.bool true) ∧ Below wo.heap.size wo w'' := q1
          have Q2 := Lib.hid q2
          rw [n1, n2]
          clear hA hK2 n1 n2 o1 o2 q1 q2 c1 c2
          go_wp2_with (first | (go_at_call 28; (with_reducible refine q1'.mono ?_); rintro e w8 ⟨rfl, hb8⟩; have hq2 := Q2.out w8 hb8; have HB8 := Lib.hid hb8; clear hb8 q1') | (go_at_call 28; (with_reducible refine hq2.mono ?_); rintro e w9 ⟨rfl, hb9⟩; have HB9 := Lib.hid hb9; clear hb9 hq2))
          go_ret
          have b8 := hbw.out.trans (HB8.out.mono hbw.out.size)
          exact ⟨rfl, b8.trans (HB9.out.mono b8.size)⟩
end Go.Proofs.YthmiomncgkmnoaaDoor
