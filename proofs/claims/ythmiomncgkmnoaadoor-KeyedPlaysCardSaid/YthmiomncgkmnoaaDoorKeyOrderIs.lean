/- The walk of keyed.Order. -/
import Derived.Test.YthmiomncgkmnoaaDoorKeyOrder
set_option linter.unusedVariables false
set_option linter.unusedSimpArgs false
namespace Go.Proofs.YthmiomncgkmnoaaDoor
open Go.RowKit Go.Sort Sip Kd
theorem num_lt64 (kl : List Nat) (hk : kl.length = 16) (hb : Bytes kl) (sg : Nat) (hs : sg < 256) (N : Nat) : num kl sg N < 2 ^ 64 := by
  have hal : le (kl.take 8) < 2 ^ 64 := num_lt _ (hb.take 8) (by rw [List.length_take]; omega)
  have hbl : le (kl.drop 8) < 2 ^ 64 := num_lt _ (hb.drop 8) (by rw [List.length_drop]; omega)
  have ho := rounds_ok (xc_ok (fold_ok _ (start4_ok hal hbl) (words_64 _ (msg_bytes sg N 8 hs))) (x := 255) (by decide)) 4
  unfold num sumW all4
  exact Sip.xor_lt _ _ (Sip.xor_lt _ _ (Sip.xor_lt _ _ ho.1 ho.2.1) ho.2.2.1) ho.2.2.2
set_option maxRecDepth 100000 in
set_option maxHeartbeats 3200000 in
theorem order_is (kl : List Nat) (hk : kl.length = 16) (hb : Bytes kl) (sg : Nat) (hs : sg < 256) (n : Nat) (h1 : 1 ≤ n) (h2 : n ≤ 256) (w : World) (hg : Signs w) :
    Calls Tryd.prog 27 #[.agg (keyV kl), .int .u8 sg, .int .i64 (n : Nat)] w fun e w' => ∃ g, e = .returned (.slice (some ⟨g, 0, none⟩) n n) ∧ Row w' g .i64 (casts (ord kl sg n)) ∧ Below w.heap.size w w' ∧ w.heap.size ≤ g := by
  have h0 := Lib.hid (od_start w kl n)
  have hmk := make_run n (by omega)
  have hsz := Lib.hid (size23 kl hk)
  have NUM : Hid (∀ (i : Nat) w, i < 300 → Signs w → Calls Tryd.prog 34 #[.agg (keyV kl), .int .u8 sg, .int .i64 i] w fun e w' => e = .returned (.int .u64 (num kl sg i : Nat)) ∧ Below w.heap.size w w') := fun i w hi h => by
    have := num_is kl hk hb sg hs i w h
    rw [u64of_nat i (by omega)] at this
    exact this
  have HG := Lib.hid hg
  have NLT : Hid (∀ i, num kl sg i < 2 ^ 64) := by
    show ∀ i, num kl sg i < 2 ^ 64
    exact fun i => num_lt64 kl hk hb sg hs i
  have t1 : decide ((n : Int) < 1) = false := decide_eq_false (by omega)
  have t2 : decide ((256 : Int) < (n : Int)) = false := decide_eq_false (by omega)
  clear hk hb hs hg
  go_enter Tryd.func27, Tryd.ntmps27
  go_upto_region 4 with (fail)
  generalize (w.alloc (.cells (keyV kl) 23)).alloc (.cells (madeCells #[.int .i64 0] n) 3) = W at *
  generalize w.heap.size + 1 = g at *
  generalize hb0 : w.heap.size = b at *
  clear hmk
  go_wp2
  go_loopw [21] (fun i wr => ∃ k : Nat, k ≤ n ∧ i = .int .i64 k ∧ Hid (Od w wr b kl g (st n k))) (fun i _ => n - (intOf i).toNat)
  case atStart => exact ⟨0, by omega, rfl, h0⟩
  case round =>
    clear h0
    obtain ⟨k, hk, rfl, hA⟩ := hrel
    obtain ⟨wo, rfl⟩ : ∃ wo : World, wo = wr := ⟨_, rfl⟩
    by_cases hlt : k < n
    · have hc := hA.out.row.at_ k (by rw [casts_length, st_length]; exact hlt)
      have hf := hA.out.row.free k (by rw [casts_length, st_length]; exact hlt)
      have hN : Hid (Od w (wo.setCell ⟨g, k, none⟩ (.int .i64 k)) b kl g (st n (k + 1))) := by
        show Od w _ b kl g _
        rw [← st_set]; exact hA.out.set k k (by rw [st_length]; exact hlt)
      generalize (casts (st n k)).getD k 0 = q at *
      clear hA
      go_wp2
      go_roundw
      case rel => exact ⟨k + 1, by omega, by go_num, hN⟩
      case measure => simp [intOf]; omega
    · obtain rfl : n = k := by omega
      have hR : Hid (∃ l, l.length = n ∧ ordK (fun i => num kl sg i) (n - 1) l = ord kl sg n ∧ Od w wo b kl g l) := ⟨_, by rw [st_all]; simp, by rw [st_all]; rfl, hA.out⟩
      obtain ⟨m, hm⟩ : ∃ m, n = m + 1 := ⟨n - 1, by omega⟩
      have hm1 : (n : Int) - 1 = (m : Int) := by omega
      have hmb : m < 256 := by omega
      rw [show n - 1 = m by omega] at hR
      have HM := Lib.hid hm
      clear hA hm
      obtain ⟨R, hRe⟩ : ∃ R, R = ord kl sg n := ⟨_, rfl⟩
      rw [← hRe] at hR
      have HR := Lib.hid hRe
      clear hRe
      go_wp2
      go_loopw [9] (fun i wr => ∃ I : Nat, I ≤ m ∧ i = .int .i64 I ∧ Hid (∃ l, l.length = n ∧ ordK (fun i => num kl sg i) I l = R ∧ Od w wr b kl g l)) (fun i _ => (intOf i).toNat)
      case atStart => exact ⟨m, by omega, by first | rfl | go_num, hR⟩
      case round =>
        clear hR
        obtain ⟨I, hI, rfl, hA⟩ := hrel
        obtain ⟨l, hll, hord, hO⟩ := hA.out
        obtain ⟨wo, rfl⟩ : ∃ wo : World, wo = wr := ⟨_, rfl⟩
        clear hA
        by_cases h0 : 0 < I
        · have hS : Signs wo := HG.out.below hO.below
          have hq := NUM.out I wo (by omega) hS
          have hXl := NLT.out I
          have hst : ordK (fun i => num kl sg i) I l = ordK (fun i => num kl sg i) (I - 1) (Kd.swp l I (num kl sg I % (I + 1))) := by
            obtain ⟨I', rfl⟩ : ∃ I', I = I' + 1 := ⟨I - 1, by omega⟩
            rfl
          rw [hst] at hord
          have hw1 : IntKind.u64.wrap ((I : Int) + 1) = (I : Int) + 1 := wraps_u64 _ (by omega) (by omega)
          obtain ⟨J, hJ⟩ : ∃ J, J = num kl sg I % (I + 1) := ⟨_, rfl⟩
          have hJl : J < I + 1 := by rw [hJ]; exact Nat.mod_lt _ (by omega)
          rw [← hJ] at hord
          have hm0 : ((num kl sg I : Nat) : Int) % ((I : Int) + 1) = (J : Int) := by rw [hJ, Int.natCast_emod, Int.natCast_add]; rfl
          obtain ⟨X, hX⟩ : ∃ X, X = num kl sg I := ⟨_, rfl⟩
          rw [← hX] at hq hXl hm0
          have hw3 : IntKind.i64.wrap (J : Int) = (J : Int) := wraps_i64 _ (by omega) (by omega)
          have hrow := Lib.hid hO.key
          have hdn : Value.int .i64 ((I : Int) - 1) = .int .i64 ((I - 1 : Nat) : Int) := by rw [show ((I - 1 : Nat) : Int) = (I : Int) - 1 by omega]
          have HDN := Lib.hid hdn
          have HORD := Lib.hid hord
          have HO := Lib.hid hO
          have HLL := Lib.hid hll
          clear hS hst hJ hX hdn hord hO hll
          go_upto_region 13 with (first | (refine wpList_load_row rfl 23 (.tmp 3) rfl b rfl 23 (keyV kl) (0, 0) _ hrow.out Tryd.underlying23 rfl hsz.out ?_) | (go_at_call 34; (with_reducible refine hq.mono ?_); rintro e w8 ⟨rfl, hb8⟩; have HB8 := Lib.hid hb8; clear hb8))
          have hO8 := HO.out.later HB8.out
          have hi1 := hO8.row.at_ I (by rw [casts_length, HLL.out, HM.out]; omega)
          have hj1 := hO8.row.at_ J (by rw [casts_length, HLL.out, HM.out]; omega)
          have hif := hO8.row.free I (by rw [casts_length, HLL.out, HM.out]; omega)
          have hjf := hO8.row.free J (by rw [casts_length, HLL.out, HM.out]; omega)
          rw [casts_get] at hi1 hj1
          have hN0 := hO8.swp I J (by rw [HLL.out, HM.out]; omega) (by rw [HLL.out, HM.out]; omega)
          have hN : Hid (∀ q, Od w (((w8.setCell ⟨g, I, none⟩ (.int .i64 (l.getD J 0 : Nat))).setCell ⟨g, J, none⟩ (.int .i64 (l.getD I 0 : Nat))).drewN q) b kl g (Kd.swp l I J)) := fun q => hN0.later (below_drewN (Below.refl _ _) q)
          have HLL2 : Hid ((Kd.swp l I J).length = n) := by show _ = _; rw [swp_length]; exact HLL.out
          have hIm : (I : Int) < (n : Int) := by have := HM.out; omega
          have hJm : (J : Int) < (n : Int) := by have := HM.out; omega
          by_cases hJI : J = I
          · subst hJI
            generalize l.getD J 0 = y at *
            clear hN0 hO8 HO HB8 NUM NLT hq hm0 hw1 hw3 HLL
            go_big_region
            have hN1 := Lib.hid (hN.out 1)
            clear hN
            go_wp2
            go_roundw
            case rel => exact ⟨J - 1, by omega, by rw [HDN.out], Lib.hid ⟨_, HLL2.out, HORD.out, hN1.out⟩⟩
            case measure => simp [intOf]; omega
          · generalize l.getD I 0 = x at *
            generalize l.getD J 0 = y at *
            clear hN0 hO8 HO HB8 NUM NLT hq hm0 hw1 hw3 HLL
            go_big_region
            have hN1 := Lib.hid (hN.out 1)
            clear hN
            go_wp2
            go_roundw
            case rel => exact ⟨I - 1, by omega, by rw [HDN.out], Lib.hid ⟨_, HLL2.out, HORD.out, hN1.out⟩⟩
            case measure => simp [intOf]; omega
        · obtain rfl : I = 0 := by omega
          have hfin : Hid (Row wo g .i64 (casts (ord kl sg n))) := by
            show Row wo g .i64 (casts (ord kl sg n))
            rw [← HR.out, ← hord]; exact hO.row
          have hbw : Hid (Below w.heap.size w wo) := hO.below
          have hnw : Hid (w.heap.size ≤ g) := hO.new
          clear hord hO hll
          go_wp2
          go_ret
          exact ⟨g, rfl, hfin.out, hbw.out, hnw.out⟩
end Go.Proofs.YthmiomncgkmnoaaDoor
