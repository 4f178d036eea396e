/- The document's keyed order: its walk. -/
import Derived.Test.YthmiomncgkmnoaaDoorKeyRefNum
import Derived.Test.YthmiomncgkmnoaaDoorKeyBands
set_option linter.unusedVariables false
set_option linter.unusedSimpArgs false
namespace Go.Proofs.YthmiomncgkmnoaaDoor
open Go.RowKit Go.Sort Sip Kd
theorem Kb.set {w0 w : World} {b g cap : Nat} {kl l l2 : List Nat} {v2 : Value} (h : Kb w0 w b kl (.slice (some ⟨g, 0, none⟩) (casts l).length cap) l v2 l2) (i x : Nat) :
    Kb w0 (w.setCell ⟨g, i, none⟩ (.int .i64 (x : Nat))) b kl (.slice (some ⟨g, 0, none⟩) (casts l).length cap) (l.set i x) v2 l2 := by
  have hk : Keep w (w.setCell ⟨g, i, none⟩ (.int .i64 (x : Nat))) [g] := Keep.setCell w ⟨g, i, none⟩ _ [g] (by simp)
  have hg : g ∈ foot (.slice (some ⟨g, 0, none⟩) (casts l).length cap) := by simp [foot, Value.ownBlock]
  have ho := h.own.set i (x : Int)
  rw [casts_set] at ho
  have hl : (casts (l.set i x)).length = (casts l).length := by rw [casts_length, casts_length, List.length_set]
  rw [hl] at ho
  refine ⟨?_, ho, h.own2.keep hk (fun j hj => by rw [List.mem_singleton]; intro e; subst e; exact h.apart _ hg hj), hk.below h.below (fun j hj => by rw [List.mem_singleton] at hj; subst hj; exact (h.news _ hg).1), h.news, h.news2, h.apart⟩
  exact (hk.block b (Array.getElem?_eq_some_iff.1 h.key).1 (by rw [List.mem_singleton]; exact fun e => (h.news _ hg).2 e.symm)).trans h.key
set_option maxRecDepth 100000 in
set_option maxHeartbeats 3200000 in
theorem refOrder_is (kl : List Nat) (hk : kl.length = 16) (hb : Bytes kl) (sg : Nat) (hs : sg < 256) (n : Nat) (h1 : 1 ≤ n) (h2 : n ≤ 256) (w : World) :
    Calls Tryd.prog 37 #[.agg (keyV kl), .int .u8 sg, .int .i64 (n : Nat)] w fun e w' => ∃ g cap, e = .returned (.slice (some ⟨g, 0, none⟩) n cap) ∧ Own w' 3 .i64 (.slice (some ⟨g, 0, none⟩) n cap) (casts (ord kl sg n)) ∧ Below w.heap.size w w' := by
  have h0 : Hid (Kb w (w.alloc (.cells (keyV kl) 23)) w.heap.size kl (.slice none 0 0) (List.range 0) (.slice none 0 0) []) :=
    ⟨heap_alloc_new w _, Own.nil _ _ _, Own.nil _ _ _, (Below.refl _ _).alloc (Nat.le_refl _) _, by simp [foot_nil], by simp [foot_nil], by simp [foot_nil]⟩
  have hsz := Lib.hid (size23 kl hk)
  have NUM : Hid (∀ (i : Nat) w, i < 300 → Calls Tryd.prog 35 #[.agg (keyV kl), .int .u8 sg, .int .i64 i] w fun e w' => e = .returned (.int .u64 (num kl sg i : Nat)) ∧ Below w.heap.size w w') := fun i w hi => by
    have := refNum_is kl hk hb sg hs i w
    rw [u64of_nat i (by omega)] at this
    exact this
  have NLT : Hid (∀ i, num kl sg i < 2 ^ 64) := fun i => num_lt64 kl hk hb sg hs i
  clear hk hb hs
  go_enter Tryd.func37, Tryd.ntmps37
  go_upto_region 1 with (fail)
  generalize w.alloc (.cells (keyV kl) 23) = W at *
  obtain ⟨b, hbe⟩ : ∃ b, b = w.heap.size := ⟨_, rfl⟩
  rw [← hbe] at h0
  rw [← hbe]
  clear hbe
  go_wp2
  go_loopw [7, 8] (fun v i wr => ∃ k : Nat, k ≤ n ∧ i = .int .i64 k ∧ Hid (Kb w wr b kl v (List.range k) (.slice none 0 0) [])) (fun _ i _ => n - (intOf i).toNat)
  case atStart => exact ⟨0, by omega, rfl, h0⟩
  case round =>
    clear h0
    obtain ⟨k, hk, rfl, hA⟩ := hrel
    obtain ⟨wo, rfl⟩ : ∃ wo : World, wo = wr := ⟨_, rfl⟩
    by_cases hlt : k < n
    · have HO := Lib.hid hA.out.own
      have hbnd : Hid (((casts (List.range k)).length + 1) * 8 ≤ 140737488355328) := by
        show ((casts (List.range k)).length + 1) * 8 ≤ 140737488355328
        rw [casts_length, List.length_range]; omega
      go_wp2_with (at_builtin; refine append_one rfl _ _ 41 3 .i64 8 rfl Tryd.underlying41 info3 (by decide) u7 (casts (List.range k)) (k : Int) rfl rfl HO.out hbnd.out ?_; intro g3 c3 w3 ho3 hk3 hf3; have hs3 := Lib.hid (hA.out.push ho3 hk3 hf3); clear ho3 hk3 hf3)
      go_roundw
      case rel => exact ⟨k + 1, by omega, by go_num, by rw [List.range_succ]; exact hs3⟩
      case measure => simp [intOf]; omega
    · rw [show (k : Int) = (n : Int) by omega]
      obtain rfl : n = k := by omega
      have n1 : (casts (List.range n)).length = n := by rw [casts_length, List.length_range]
      obtain ⟨g, cap, e1⟩ := hA.out.own.form (by rw [n1]; omega)
      rw [n1] at e1
      have hR : Hid (∃ l, l.length = n ∧ ordK (fun i => num kl sg i) (n - 1) l = ord kl sg n ∧ Kb w wo b kl (.slice (some ⟨g, 0, none⟩) n cap) l (.slice none 0 0) []) := ⟨_, by simp, rfl, by rw [← e1]; exact hA.out⟩
      subst e1
      obtain ⟨m, hm⟩ : ∃ m, n = m + 1 := ⟨n - 1, by omega⟩
      have hm1 : (n : Int) - 1 = (m : Int) := by omega
      have hmb : m < 256 := by omega
      rw [show n - 1 = m by omega] at hR
      have HM := Lib.hid hm
      obtain ⟨R, hRe⟩ : ∃ R, R = ord kl sg n := ⟨_, rfl⟩
      rw [← hRe] at hR
      have HR := Lib.hid hRe
      clear hA hm hRe n1
      go_wp2
      go_loopw [9] (fun i wr => ∃ I : Nat, I ≤ m ∧ i = .int .i64 I ∧ Hid (∃ l, l.length = n ∧ ordK (fun i => num kl sg i) I l = R ∧ Kb w wr b kl (.slice (some ⟨g, 0, none⟩) n cap) l (.slice none 0 0) [])) (fun i _ => (intOf i).toNat)
      case atStart => exact ⟨m, by omega, by first | rfl | go_num, hR⟩
      case round =>
        clear hR
        obtain ⟨I, hI, rfl, hA⟩ := hrel
        obtain ⟨l, hll, hord, hO⟩ := hA.out
        obtain ⟨wo, rfl⟩ : ∃ wo : World, wo = wr := ⟨_, rfl⟩
        clear hA
        by_cases h0 : 0 < I
        · have hq := NUM.out I wo (by omega)
          have hXl := NLT.out I
          have hst : ordK (fun i => num kl sg i) I l = ordK (fun i => num kl sg i) (I - 1) (Kd.swp l I (num kl sg I % (I + 1))) := by
            obtain ⟨I', rfl⟩ : ∃ I', I = I' + 1 := ⟨I - 1, by omega⟩
            rfl
          rw [hst] at hord
          have hw1 : IntKind.u64.wrap ((I : Int) + 1) = (I : Int) + 1 := wraps_u64 _ (by omega) (by omega)
          obtain ⟨J, hJ⟩ : ∃ J, J = num kl sg I % (I + 1) := ⟨_, rfl⟩
          have hJl : J < I + 1 := by rw [hJ]; exact Nat.mod_lt _ (by omega)
          rw [← hJ] at hord
          have hm0 : ((num kl sg I : Nat) : Int) % ((I : Int) + 1) = (J : Int) := by rw [hJ, Int.natCast_emod, Int.natCast_add]; rfl
          obtain ⟨X, hX⟩ : ∃ X, X = num kl sg I := ⟨_, rfl⟩
          rw [← hX] at hq hXl hm0
          have hw3 : IntKind.i64.wrap (J : Int) = (J : Int) := wraps_i64 _ (by omega) (by omega)
          have hrow := Lib.hid hO.key
          have HO := Lib.hid hO
          have hdn : Value.int .i64 ((I : Int) - 1) = .int .i64 ((I - 1 : Nat) : Int) := by rw [show ((I - 1 : Nat) : Int) = (I : Int) - 1 by omega]
          have HDN := Lib.hid hdn
          have HORD := Lib.hid hord
          have HLL := Lib.hid hll
          clear hst hJ hX hdn hord hO hll
          go_upto_region 10 with (first | (refine wpList_load_row rfl 23 (.tmp 3) rfl b rfl 23 (keyV kl) (0, 0) _ hrow.out Tryd.underlying23 rfl hsz.out ?_) | (go_at_call 35; (with_reducible refine hq.mono ?_); rintro e w8 ⟨rfl, hb8⟩; have HB8 := Lib.hid hb8; clear hb8))
          have e : (casts l).length = n := by rw [casts_length]; exact HLL.out
          have hK8 : Kb w w8 b kl (.slice (some ⟨g, 0, none⟩) (casts l).length cap) l (.slice none 0 0) [] := by rw [e]; exact HO.out.later HB8.out
          have hi1 := hK8.own.at_ I (by rw [e, HM.out]; omega)
          have hj1 := hK8.own.at_ J (by rw [e, HM.out]; omega)
          have hif := hK8.own.free I
          rw [casts_get] at hi1 hj1
          have hK9 := Lib.hid (hK8.set I (l.getD J 0))
          have e9 : (casts (l.set I (l.getD J 0))).length = (casts l).length := by rw [casts_length, casts_length, List.length_set]
          have hK9' : Kb w (w8.setCell ⟨g, I, none⟩ (.int .i64 (l.getD J 0 : Nat))) b kl (.slice (some ⟨g, 0, none⟩) (casts (l.set I (l.getD J 0))).length cap) (l.set I (l.getD J 0)) (.slice none 0 0) [] := by rw [e9]; exact hK9.out
          have hN0 := hK9'.set J (l.getD I 0)
          rw [e9, e] at hN0
          have hIm : (I : Int) < (n : Int) := by have := HM.out; omega
          have hJm : (J : Int) < (n : Int) := by have := HM.out; omega
          have HN0 : Hid (Kb w ((w8.setCell ⟨g, I, none⟩ (.int .i64 (l.getD J 0 : Nat))).setCell ⟨g, J, none⟩ (.int .i64 (l.getD I 0 : Nat))) b kl (.slice (some ⟨g, 0, none⟩) n cap) (Kd.swp l I J) (.slice none 0 0) []) := hN0
          have HE := Lib.hid e
          clear hN0 hK8 HO HB8 hq hm0 hw1
          have hf9 := hK9.out.own.free J
          have hc9 : ∃ v, (w8.setCell ⟨g, I, none⟩ (.int .i64 (l.getD J 0 : Nat))).cell? ⟨g, J, none⟩ = some v := ⟨_, hK9'.own.at_ J (by rw [e9, e, HM.out]; omega)⟩
          obtain ⟨v9, hc9⟩ := hc9
          clear hK9' e e9
          have HLL2 : Hid ((Kd.swp l I J).length = n) := by show _ = _; rw [swp_length]; exact HLL.out
          generalize l.getD J 0 = y at *
          generalize l.getD I 0 = x at *
          go_upto_region 12 with (fail)
          generalize w8.setCell ⟨g, I, none⟩ (.int .i64 (y : Nat)) = W9 at *
          go_wp2
          go_roundw
          case rel => exact ⟨I - 1, by omega, by rw [HDN.out], Lib.hid ⟨_, HLL2.out, HORD.out, HN0.out⟩⟩
          case measure => simp [intOf]; omega
        · obtain rfl : I = 0 := by omega
          have hfin : Hid (Own wo 3 .i64 (.slice (some ⟨g, 0, none⟩) n cap) (casts (ord kl sg n))) := by
            show Own wo 3 .i64 _ (casts (ord kl sg n))
            rw [← HR.out, ← hord]; exact hO.own
          have hbw : Hid (Below w.heap.size w wo) := hO.below
          clear hord hO hll
          go_wp2
          go_ret
          exact ⟨g, cap, rfl, hfin.out, hbw.out⟩
end Go.Proofs.YthmiomncgkmnoaaDoor
