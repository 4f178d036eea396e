/- A frame's waves: the walk of dct.Waves. -/
import Derived.Test.YthoemgiadadfcaaWsWv
set_option linter.unusedVariables false
set_option linter.unusedSimpArgs false
namespace Go.Proofs.Ythoemgiadadfcaa
open Go.RowKit Go.Sort Ws
set_option maxRecDepth 100000 in
set_option maxHeartbeats 6400000 in
theorem waves_is (f : F) (hf : Bd 16777216 f) (w : World) : Calls Try.prog 17 #[.agg (iv 32 f)] w fun e w' => e = .returned (.agg (iv 32 (waves f))) ∧ Below w.heap.size w w' := by
  have hz := zero47
  have hz6 := zero60
  have hz5 : ∀ w, (zeroValue 58).run Try.prog w = .ok (.agg #[.int .i64 0, .int .i64 0]) w := zero58
  have HBF : Hid (∀ i, -1073741824 ≤ f i ∧ f i ≤ 1073741824) := fun i => by have := hf i; omega
  have hv5 : Bd 644972681 (w5 f) := by
    have := w5_le (M := 16777216) (by omega) (by omega) hf
    have c9 : gr (gr (gr (gr (gr (gr (gr (gr (gr 16777216)))))))) = 644972681 := by decide +kernel
    rw [c9] at this
    exact this
  have HV5 := Lib.hid hv5
  have hW6 := Lib.hid (w6_le (M := 644972681) (by omega) (by omega) hv5)
  have hs4 := fun f => size47 f
  have HS4 := Lib.hid hs4
  have a1 : Below w.heap.size w (w.alloc (.cells (iv 32 f) 47)) := (Below.refl _ _).alloc (Nat.le_refl _) _
  have a2 : Below (w.alloc (.cells (iv 32 f) 47)).heap.size (w.alloc (.cells (iv 32 f) 47)) ((w.alloc (.cells (iv 32 f) 47)).alloc (.cells (iv 32 fun _ => 0) 47)) := (Below.refl _ _).alloc (Nat.le_refl _) _
  have hA0 : Hid (Blk ((w.alloc (.cells (iv 32 f) 47)).alloc (.cells (iv 32 fun _ => 0) 47)) w.heap.size 47 32 f) := (Blk.new w 47 32 f).below a2
  have hR0 : Hid (Blk ((w.alloc (.cells (iv 32 f) 47)).alloc (.cells (iv 32 fun _ => 0) 47)) (w.heap.size + 1) 47 32 fun _ => 0) := by
    have h2 := Blk.new (w.alloc (.cells (iv 32 f) 47)) 47 32 fun _ => 0
    rw [World.size_alloc] at h2
    exact h2
  have hBW : Hid (Below w.heap.size w ((w.alloc (.cells (iv 32 f) 47)).alloc (.cells (iv 32 fun _ => 0) 47))) := a1.alloc a1.size _
  clear hf hv5 a1 a2 hs4
  go_enter Try.func17, Try.ntmps17
  go_upto_region 1 with (fail)
  generalize (w.alloc (.cells (iv 32 f) 47)).alloc (.cells (iv 32 fun _ => 0) 47) = W at *
  obtain ⟨r, hr0⟩ : ∃ r, r = w.heap.size + 1 := ⟨_, rfl⟩
  obtain ⟨a, ha0⟩ : ∃ a, a = w.heap.size := ⟨_, rfl⟩
  have hnew : Hid (w.heap.size ≤ a ∧ w.heap.size ≤ r ∧ a ≠ r) := by show _ ∧ _; omega
  rw [← hr0] at hR0
  rw [← hr0]
  rw [← ha0] at hA0
  rw [← ha0]
  clear hr0 ha0
  have hrow := hA0.out
  unfold Blk at hrow
  have hs47 := Lib.hid (HS4.out f)
  have hheldW := held_is f (fun i _ => HBF.out i) W
  go_upto_region 3 with (first | (refine wpList_load_row rfl 47 _ rfl a rfl 47 (iv 32 f) (0, 0) _ hrow Try.underlying47 rfl hs47.out ?_) | (go_at_call 28; (with_reducible refine hheldW.mono ?_); rintro e wa ⟨rfl, hb1⟩; have HB1 := Lib.hid hb1; clear hb1 hheldW))
  have hV0 : Hid (Wv w (wa.alloc (.cells (iv 32 fun _ => 0) 60)) a r wa.heap.size f (in1 f 0)) := by
    have hb := hBW.out.trans (HB1.out.mono hBW.out.size)
    have a3 : Below wa.heap.size wa (wa.alloc (.cells (iv 32 fun _ => 0) 60)) := (Below.refl _ _).alloc (Nat.le_refl _) _
    have l1 := hA0.out.lt
    have l2 := hR0.out.lt
    have l3 := HB1.out.size
    have hn := hnew.out
    exact ⟨(hA0.out.below HB1.out).below a3, (hR0.out.below HB1.out).below a3, (Blk.new wa 60 32 _).congr fun i _ => by unfold in1; rw [if_neg (by omega)], hb.trans (a3.mono hb.size), ⟨hn.1, hn.2.1, hb.size⟩, hn.2.2, by omega, by omega⟩
  go_upto_region 4 with (fail)
  generalize wa.alloc (.cells (iv 32 fun _ => 0) 60) = W1 at *
  generalize wa.heap.size = c at *
  clear hA0 hR0 hBW HB1 hnew hrow hz6
  go_wp2
  go_loopw [12] (fun q wr => ∃ n : Nat, n ≤ 16 ∧ q = .int .i64 n ∧ Hid (Wv w wr a r c f (in1 f n))) (fun q _ => 16 - (intOf q).toNat)
  case atStart => exact ⟨0, by omega, rfl, hV0⟩
  case round =>
    clear hV0
    obtain ⟨n, hn, rfl, hA⟩ := hrel
    obtain ⟨wo, rfl⟩ : ∃ wo : World, wo = wr := ⟨_, rfl⟩
    by_cases hlt : n < 16
    · obtain ⟨N2, hN2⟩ : ∃ N2, N2 = 2 * n := ⟨_, rfl⟩
      obtain ⟨M, hM⟩ : ∃ M, M = 31 - 2 * n := ⟨_, rfl⟩
      have e1 : 2 * (n : Int) = (N2 : Int) := by omega
      have e2 : 31 - (N2 : Int) = (M : Int) := by omega
      have l0 := hA.out.A.cell N2 (by omega)
      have l1 := hA.out.A.cell M (by omega)
      have hNM : (N2 : Int) < 32 ∧ (M : Int) < 32 := by omega
      obtain ⟨hN3, hM3⟩ := hNM
      have hnI : (n : Int) < 16 := by omega
      have hst := in1_step f n
      rw [← hM, ← hN2] at hst
      have hed := fun w => (edge_is n hlt w).mono (fun e w' h => (⟨h.1, h.2.symm⟩ : _ ∧ w = w'))
      have htu := Lib.hid fun k g w h => wturn_is n hlt k c g w h
      have hth := hA.out.C.there (n * 2) 2 (by omega)
      have hthd := Lib.hid fun m => ((hA.out.drewN m).C.there (n * 2) 2 (by omega))
      obtain ⟨x, hx⟩ : ∃ x, f N2 = x := ⟨_, rfl⟩
      obtain ⟨y, hy⟩ : ∃ y, f M = y := ⟨_, rfl⟩
      rw [hx] at l0
      rw [hy] at l1
      rw [hx, hy] at hst
      have hs2 : Hid ((Try.prog.info? 58).map (·.size) = some (#[Value.int .i64 x, .int .i64 y]).size) := size58 fun _ => 0
      have hone : Hid ((#[Value.int .i64 x, .int .i64 y]).all (·.oneCell') = true) := by show _ = _; simp [Value.oneCell']
      have hN : Hid (∀ m, Wv w ((wo.drewN m).setCells c (n * 2) [.int .i64 x, .int .i64 y]) a r c f (fun z => if n * 2 ≤ z ∧ z < n * 2 + 2 then (if z - n * 2 = 1 then y else x) else in1 f n z)) := fun m => (hA.out.drewN m).put (n * 2) 2 fun i => if i = 1 then y else x
      have hst := Lib.hid hst
      generalize edge n = E at *
      clear hx hy hth hN2 hM hA
      go_upto_region 7 with (fail)
      refine wp_region_quiet_tail 12 (by kernel_rfl) (by kernel_rfl) ?_
      simp only [List.take_succ_cons, List.take_zero, List.drop_succ_cons, List.drop_zero]
      repeat (go_big_quiet_step (fail))
      refine wpQuiet_nil ?_
      intro _ hw'
      obtain ⟨nq, hw''⟩ := hw'
      subst hw''
      have hth := hthd.out nq
      have hN := Lib.hid (hN.out nq)
      generalize wo.drewN nq = W2 at *
      go_upto_region 8 with (refine wpList_store_mid rfl 58 _ _ rfl c (n * 2) #[.int .i64 x, .int .i64 y] rfl rfl hth hs2.out hone.out ?_)
      generalize W2.setCells c (n * 2) [.int .i64 x, .int .i64 y] = W3 at *
      have q9 := htu.out E _ W3 hN.out.C
      rw [hst.out] at q9
      clear hth l0 l1 hthd
      go_wp2_with (first | (go_at_call 30; (with_reducible refine (hed _).mono ?_); rintro e w8 ⟨rfl, h8⟩; subst h8) | (go_at_call 29; (with_reducible refine q9.mono ?_); rintro e w9 ⟨rfl, h9⟩; have H9 := Lib.hid h9; clear h9 q9))
      have hN9 : Hid (Wv w w9 a r c f (in1 f (n + 1))) := hN.out.setC H9.out
      go_roundw
      case rel => exact ⟨n + 1, by omega, by go_num, hN9⟩
      case measure => simp [intOf]; omega
    · rw [show (n : Int) = 16 by omega]
      obtain rfl : n = 16 := by omega
      have hV1 : Hid (Wv w wo a r c f (w1 f)) := hA.out.congr (fun _ _ => rfl) fun i hi => by unfold in1; rw [if_pos (by omega)]
      have hE : Hid (w5 f = Ws.run Ws.ahead (stL 2) (Ws.run Ws.ahead (stL 4) (Ws.run Ws.ahead (stL 8) (Ws.run Ws.ahead (stL 16) (w1 f))))) := rfl
      have c1 := Lib.hid fun g w h => stage_ahead16 c g w h
      have c2 := Lib.hid fun g w h => stage_ahead8 c g w h
      have c3 := Lib.hid fun g w h => stage_ahead4 c g w h
      have c4 := Lib.hid fun g w h => stage_ahead2 c g w h
      obtain ⟨v0, hv0⟩ : ∃ v0, v0 = w1 f := ⟨_, rfl⟩
      obtain ⟨v1, hv1⟩ : ∃ v1, v1 = Ws.run Ws.ahead (stL 16) v0 := ⟨_, rfl⟩
      obtain ⟨v2, hv2⟩ : ∃ v2, v2 = Ws.run Ws.ahead (stL 8) v1 := ⟨_, rfl⟩
      obtain ⟨v3, hv3⟩ : ∃ v3, v3 = Ws.run Ws.ahead (stL 4) v2 := ⟨_, rfl⟩
      obtain ⟨v4, hv4⟩ : ∃ v4, v4 = Ws.run Ws.ahead (stL 2) v3 := ⟨_, rfl⟩
      rw [← hv0] at hV1
      have hE5 : Hid (w5 f = v4) := by show _ = _; rw [hE.out, hv4, hv3, hv2, hv1, hv0]
      have hv1 := Lib.hid hv1
      have hv2 := Lib.hid hv2
      have hv3 := Lib.hid hv3
      have hv4 := Lib.hid hv4
      clear hA hE hv0 hn hlt
      go_wp2
      go_loopw [5] (fun q wr => (q = .int .i64 16 ∧ Hid (Wv w wr a r c f v0)) ∨ (q = .int .i64 8 ∧ Hid (Wv w wr a r c f v1)) ∨ (q = .int .i64 4 ∧ Hid (Wv w wr a r c f v2)) ∨ (q = .int .i64 2 ∧ Hid (Wv w wr a r c f v3)) ∨ (q = .int .i64 1 ∧ Hid (Wv w wr a r c f v4))) (fun q _ => (intOf q).toNat)
      case atStart => exact .inl ⟨rfl, hV1⟩
      case round =>
        clear hV1
        obtain ⟨wo, rfl⟩ : ∃ wo : World, wo = wr := ⟨_, rfl⟩
        rcases hrel with ⟨rfl, hA⟩ | ⟨rfl, hA⟩ | ⟨rfl, hA⟩ | ⟨rfl, hA⟩ | ⟨rfl, hA⟩
        · have q1 := c1.out v0 wo hA.out.C
          rw [← hv1.out] at q1
          go_wp2_with (go_at_call 31; (with_reducible refine q1.mono ?_); rintro e w9 ⟨rfl, h9⟩; have hN := Lib.hid (hA.out.setC h9); clear h9 q1)
          go_roundw
          case rel => exact .inr (.inl ⟨rfl, hN⟩)
          case measure => simp [intOf]
        · have q1 := c2.out v1 wo hA.out.C
          rw [← hv2.out] at q1
          go_wp2_with (go_at_call 31; (with_reducible refine q1.mono ?_); rintro e w9 ⟨rfl, h9⟩; have hN := Lib.hid (hA.out.setC h9); clear h9 q1)
          go_roundw
          case rel => exact .inr (.inr (.inl ⟨rfl, hN⟩))
          case measure => simp [intOf]
        · have q1 := c3.out v2 wo hA.out.C
          rw [← hv3.out] at q1
          go_wp2_with (go_at_call 31; (with_reducible refine q1.mono ?_); rintro e w9 ⟨rfl, h9⟩; have hN := Lib.hid (hA.out.setC h9); clear h9 q1)
          go_roundw
          case rel => exact .inr (.inr (.inr (.inl ⟨rfl, hN⟩)))
          case measure => simp [intOf]
        · have q1 := c4.out v3 wo hA.out.C
          rw [← hv4.out] at q1
          go_wp2_with (go_at_call 31; (with_reducible refine q1.mono ?_); rintro e w9 ⟨rfl, h9⟩; have hN := Lib.hid (hA.out.setC h9); clear h9 q1)
          go_roundw
          case rel => exact .inr (.inr (.inr (.inr ⟨rfl, hN⟩)))
          case measure => simp [intOf]
        · obtain ⟨v, hv⟩ : ∃ v, v = w5 f := ⟨_, rfl⟩
          rw [← hE5.out, ← hv] at hA
          have hvb : Hid (Bd 644972681 v) := by show Bd _ _; rw [hv]; exact HV5.out
          have hvw : Hid (waves f = fold6 (w6 v)) := by show _ = _; rw [hv]; rfl
          have hw6b : Hid (Bd 967459023 (w6 v)) := by show Bd _ _; rw [hv]; exact hW6.out
          have hV2 : Hid (Wv w wo a r c (out2 f v 0) (out1 v 0)) := hA.out.congr (fun i hi => by unfold out2; split <;> rw [if_neg (by omega)]) fun i hi => by unfold out1; rw [if_neg (by omega)]
          clear hA hv1 hv2 hv3 hv4 c1 c2 c3 c4 hE5 hv HV5 hW6
          go_wp2
          go_loopw [38] (fun q wr => ∃ k : Nat, k ≤ 16 ∧ q = .int .i64 k ∧ Hid (Wv w wr a r c (out2 f v k) (out1 v k))) (fun q _ => 16 - (intOf q).toNat)
          case atStart => exact ⟨0, by omega, rfl, hV2⟩
          case round =>
            clear hV2
            obtain ⟨k, hk, rfl, hA⟩ := hrel
            obtain ⟨wo, rfl⟩ : ∃ wo : World, wo = wr := ⟨_, rfl⟩
            by_cases hlt : k < 16
            · have hfl := fun w => (flip_is k hlt w).mono (fun e w' h => (⟨h.1, h.2.symm⟩ : _ ∧ w = w'))
              have hed := fun w => (edge_is k hlt w).mono (fun e w' h => (⟨h.1, h.2.symm⟩ : _ ∧ w = w'))
              have q9 := wturn_is (flip k) (flip_lt k) (edge k) c (out1 v k) wo hA.out.C
              have hs1 := Lib.hid (out1_step v k hlt)
              have hs2 := Lib.hid (out2_step f v k hlt)
              obtain ⟨L, hL⟩ : ∃ L, L = flip k := ⟨_, rfl⟩
              have hLl : L < 16 := by rw [hL]; exact flip_lt k
              have hLI : (L : Int) < 16 := by omega
              rw [← hL] at hfl q9 hs1 hs2
              generalize edge k = E at *
              clear hL
              have hnx : Hid (∀ w9, Wk wo c 60 32 (turnAt L E (out1 v k)) w9 → Wv w w9 a r c (out2 f v k) (out1 v (k + 1))) := fun w9 h9 => (hA.out.setC h9).congr (fun _ _ => rfl) fun i hi => hs1.out i hi
              clear hA
              go_upto_region 18 with (first | (go_at_call 33; (with_reducible refine (hfl _).mono ?_); rintro e w8 ⟨rfl, h8⟩; subst h8) | (go_at_call 30; (with_reducible refine (hed _).mono ?_); rintro e w8 ⟨rfl, h8⟩; subst h8) | (go_at_call 29; (with_reducible refine q9.mono ?_); rintro e w9 ⟨rfl, h9⟩; have H9 := Lib.hid (hnx.out w9 h9); clear h9 q9))
              have hrg := H9.out.C.range (L * 2) 2 (by omega)
              have hX1 : -967459023 ≤ out1 v (k + 1) (2 * L) ∧ out1 v (k + 1) (2 * L) ≤ 967459023 := by
                unfold out1
                split
                · exact hw6b.out _
                · have := hvb.out (2 * L); omega
              have hY1 : -967459023 ≤ out1 v (k + 1) (2 * L + 1) ∧ out1 v (k + 1) (2 * L + 1) ≤ 967459023 := by
                unfold out1
                split
                · exact hw6b.out _
                · have := hvb.out (2 * L + 1); omega
              obtain ⟨X, hX⟩ : ∃ X, out1 v (k + 1) (2 * L) = X := ⟨_, rfl⟩
              obtain ⟨Y, hY⟩ : ∃ Y, out1 v (k + 1) (2 * L + 1) = Y := ⟨_, rfl⟩
              have hrg2 : w9.rangeAt c (L * 2) [.int .i64 X, .int .i64 Y] := by
                rw [← hX, ← hY]
                have e0 : 2 * L = L * 2 + 0 := by omega
                have e1 : 2 * L + 1 = L * 2 + 1 := by omega
                rw [e1, e0]
                exact hrg
              rw [hX] at hX1 hs2
              rw [hY] at hY1 hs2
              obtain ⟨hX1, hX2⟩ := hX1
              obtain ⟨hY1, hY2⟩ := hY1
              have hs2c : Hid ((Try.prog.info? 58).map (·.size) = some ([Value.int .i64 X, .int .i64 Y]).length) := size58 fun _ => 0
              have hs2d : Hid ((Try.prog.info? 58).map (·.size) = some (#[Value.int .i64 X, .int .i64 Y]).size) := size58 fun _ => 0
              have hone : Hid ((#[Value.int .i64 X, .int .i64 Y]).all (·.oneCell') = true) := by show _ = _; simp [Value.oneCell']
              have hold : Hid ((#[Value.int .i64 0, .int .i64 0]).size = (#[Value.int .i64 X, .int .i64 Y]).size) := rfl
              have hres : (w9.alloc (.cells #[.int .i64 0, .int .i64 0] 58)).heap[w9.heap.size]? = some (.cells #[.int .i64 0, .int .i64 0] 58 (0, 0)) := heap_alloc_new w9 _
              have hQ : Hid (Wq w a r c (out2 f v k) (out1 v (k + 1)) w9.heap.size #[.int .i64 X, .int .i64 Y] ((w9.alloc (.cells #[.int .i64 0, .int .i64 0] 58)).setRow w9.heap.size #[.int .i64 X, .int .i64 Y])) := by
                have h8 := H9.out.later ((Below.refl _ _).alloc (Nat.le_refl _) (.cells #[.int .i64 0, .int .i64 0] 58))
                have l1 := H9.out.A.lt
                have l2 := H9.out.C.lt
                have l3 := H9.out.R.lt
                have hk : Keep (w9.alloc (.cells #[.int .i64 0, .int .i64 0] 58)) ((w9.alloc (.cells #[.int .i64 0, .int .i64 0] 58)).setRow w9.heap.size #[.int .i64 X, .int .i64 Y]) [w9.heap.size] := Keep.setRow _ _ _ _ (by simp)
                exact ⟨⟨h8.A.keep hk (by simp; omega), h8.R.keep hk (by simp; omega), h8.C.keep hk (by simp; omega), hk.below h8.below (by intro j hj; rw [List.mem_singleton] at hj; rw [hj]; exact H9.out.below.size), h8.new, h8.ne⟩, setRow_heap _ _ _ _ 58 _ hres, by omega⟩
              clear hX hY hrg H9 hed
              go_upto_region 19 with (first | (refine wpList_load_mid rfl 58 _ rfl c (L * 2) rfl [.int .i64 X, .int .i64 Y] _ hrg2 Try.underlying58 rfl hs2c.out ?_) | (refine wpList_store_row rfl 58 _ _ rfl w9.heap.size #[.int .i64 X, .int .i64 Y] rfl rfl 58 _ hres hs2d.out hold.out hone.out ?_) | (go_at_call 33; (with_reducible refine (hfl _).mono ?_); rintro e w8 ⟨rfl, h8⟩; subst h8))
              generalize (w9.alloc (.cells #[.int .i64 0, .int .i64 0] 58)).setRow w9.heap.size #[.int .i64 X, .int .i64 Y] = W5 at *
              generalize w9.heap.size = p at *
              obtain ⟨N2, hN2⟩ : ∃ N2, N2 = 2 * k := ⟨_, rfl⟩
              obtain ⟨M, hM⟩ : ∃ M, M = 31 - 2 * k := ⟨_, rfl⟩
              have e1 : 2 * (k : Int) = (N2 : Int) := by omega
              have e2 : 31 - (N2 : Int) = (M : Int) := by omega
              have ew1 : IntKind.i64.wrap (N2 : Int) = (N2 : Int) := by rw [IntKind.wrap_i64]; omega
              have ew2 : IntKind.i64.wrap (M : Int) = (M : Int) := by rw [IntKind.wrap_i64]; omega
              have ew3 : IntKind.i64.wrap (-Y) = -Y := by rw [IntKind.wrap_i64]; omega
              have hNM : (N2 : Int) < 32 ∧ (M : Int) < 32 := by omega
              obtain ⟨hN3, hM3⟩ := hNM
              have hbd : Hid (N2 < 32 ∧ M < 32) := by show _ ∧ _; omega
              have hfin : Hid (∀ W6, Wq w a r c (fun m => if m = M then -Y else if m = N2 then X else out2 f v k m) (out1 v (k + 1)) p #[.int .i64 X, .int .i64 Y] W6 → Wv w W6 a r c (out2 f v (k + 1)) (out1 v (k + 1))) := fun W6 h6 => h6.1.congr (fun i hi => by rw [hM, hN2]; exact hs2.out i hi) fun _ _ => rfl
              clear hN2 hM hfl
              obtain ⟨I, hI⟩ : ∃ I : (Nat → Bool) → Act → World → Prop, ∀ dn ac wc, I dn ac wc ↔ ∃ s50 s51 s52 s53 s54 s55 s56 s57 s58 s59 s60 s61, ac = ⟨#[.agg (iv 32 f), .pointer (some ⟨a, 0, none⟩), .pointer (some ⟨r, 0, none⟩), .pointer (some ⟨c, 0, none⟩), u4, .int .i64 1, .int .i64 (k : Nat), .pointer (some ⟨p, 0, none⟩), .agg (iv 32 f), .bool true, .bool false, undef, .int .i64 16, .bool false, u14, u15, u16, u17, u18, u19, u20, u21, u22, u23, u24, u25, u26, u27, u28, u29, u30, u31, .int .i64 1, .bool false, u34, u35, u36, u37, .int .i64 (k : Nat), .bool true, .int .i64 (k : Nat), .int .i64 (k : Nat), .int .i64 (L : Nat), .int .i64 (k : Nat), .int .i64 E, .tuple #[], .int .i64 (k : Nat), .int .i64 (L : Nat), .pointer (some ⟨c, L * 2, none⟩), .agg #[.int .i64 X, .int .i64 Y], s50, s51, s52, s53, s54, s55, s56, s57, s58, s59, s60, s61, u62, undef], []⟩ ∧
                St2 wc dn [(0, .int .i64 (k : Nat), s50), (1, .int .i64 (N2 : Nat), s51), (2, .int .i64 (k : Nat), s52), (3, .int .i64 (N2 : Nat), s53), (4, .int .i64 (M : Nat), s54), (5, .pointer (some ⟨p, 0, none⟩), s55), (6, .int .i64 (X), s56), (7, .pointer (some ⟨p, 1, none⟩), s57), (8, .int .i64 (Y), s58), (9, .int .i64 (-Y), s59), (10, .pointer (some ⟨a, N2, none⟩), s60), (12, .pointer (some ⟨a, M, none⟩), s61)] (Wq w a r c (out2 f v k) (out1 v (k + 1)) p #[.int .i64 X, .int .i64 Y]) (Wq w a r c (fun m => if m = N2 then X else out2 f v k m) (out1 v (k + 1)) p #[.int .i64 X, .int .i64 Y]) (Wq w a r c (fun m => if m = M then -Y else if m = N2 then X else out2 f v k m) (out1 v (k + 1)) p #[.int .i64 X, .int .i64 Y]) 11 13 [] := ⟨_, fun _ _ _ => Iff.rfl⟩
              have HI := Lib.hid hI
              clear hI
              refine wp_region_inv (by kernel_rfl) (by kernel_rfl) I ?_ ?_ ?_
              · exact (HI.out _ _ _).2 ⟨_, _, _, _, _, _, _, _, _, _, _, _, rfl, St2.start _ _ _ _ _ _ _ _ hQ.out (Wq.stays _ _ _ _ _ _ _ _)⟩
              · intro i o dn ac wc ho hd hdep hIn
                obtain ⟨s50, s51, s52, s53, s54, s55, s56, s57, s58, s59, s60, s61, rfl, hT⟩ := (HI.out _ _ _).1 hIn
                clear hIn
                rcases i with _ | _ | _ | _ | _ | _ | _ | _ | _ | _ | _ | _ | _ | _ | i
                · obtain rfl := Option.some.inj ho
                  have HT := Lib.hid hT
                  clear hT hdep
                  refine .inl ?_
                  unfold Oper.wp
                  go_simp
                  exact (HI.out _ _ _).2 ⟨_, _, _, _, _, _, _, _, _, _, _, _, rfl, (HT.out).put 0 0 (.int .i64 (k : Nat)) (by decide) rfl⟩
                · obtain rfl := Option.some.inj ho
                  have e0 := hT.vals _ (List.Mem.head _) (hdep ⟨0, .data⟩ (by simp) rfl)
                  dsimp only at e0
                  subst e0
                  have HT := Lib.hid hT
                  clear hT hdep
                  refine .inl ?_
                  unfold Oper.wp
                  go_simp
                  exact (HI.out _ _ _).2 ⟨_, _, _, _, _, _, _, _, _, _, _, _, rfl, (HT.out).put 1 1 (.int .i64 (N2 : Nat)) (by decide) rfl⟩
                · obtain rfl := Option.some.inj ho
                  have HT := Lib.hid hT
                  clear hT hdep
                  refine .inl ?_
                  unfold Oper.wp
                  go_simp
                  exact (HI.out _ _ _).2 ⟨_, _, _, _, _, _, _, _, _, _, _, _, rfl, (HT.out).put 2 2 (.int .i64 (k : Nat)) (by decide) rfl⟩
                · obtain rfl := Option.some.inj ho
                  have e2 := hT.vals _ (List.Mem.tail _ (List.Mem.tail _ (List.Mem.head _))) (hdep ⟨2, .data⟩ (by simp) rfl)
                  dsimp only at e2
                  subst e2
                  have HT := Lib.hid hT
                  clear hT hdep
                  refine .inl ?_
                  unfold Oper.wp
                  go_simp
                  exact (HI.out _ _ _).2 ⟨_, _, _, _, _, _, _, _, _, _, _, _, rfl, (HT.out).put 3 3 (.int .i64 (N2 : Nat)) (by decide) rfl⟩
                · obtain rfl := Option.some.inj ho
                  have e3 := hT.vals _ (List.Mem.tail _ (List.Mem.tail _ (List.Mem.tail _ (List.Mem.head _)))) (hdep ⟨3, .data⟩ (by simp) rfl)
                  dsimp only at e3
                  subst e3
                  have HT := Lib.hid hT
                  clear hT hdep
                  refine .inl ?_
                  unfold Oper.wp
                  go_simp
                  exact (HI.out _ _ _).2 ⟨_, _, _, _, _, _, _, _, _, _, _, _, rfl, (HT.out).put 4 4 (.int .i64 (M : Nat)) (by decide) rfl⟩
                · obtain rfl := Option.some.inj ho
                  have HT := Lib.hid hT
                  clear hT hdep
                  refine .inl ?_
                  unfold Oper.wp
                  go_simp
                  exact (HI.out _ _ _).2 ⟨_, _, _, _, _, _, _, _, _, _, _, _, rfl, (HT.out).put 5 5 (.pointer (some ⟨p, 0, none⟩)) (by decide) rfl⟩
                · obtain rfl := Option.some.inj ho
                  have e5 := hT.vals _ (List.Mem.tail _ (List.Mem.tail _ (List.Mem.tail _ (List.Mem.tail _ (List.Mem.tail _ (List.Mem.head _)))))) (hdep ⟨5, .data⟩ (by simp) rfl)
                  dsimp only at e5
                  subst e5
                  have hS := hT.any (fun w' => w'.heap[p]? = some (.cells #[.int .i64 X, .int .i64 Y] 58 (0, 0))) (fun _ h => h.2.1) (fun _ h => h.2.1) (fun _ h => h.2.1)
                  have l0 : wc.cell? ⟨p, 0, none⟩ = some (.int .i64 X) := cell_of_row _ _ 0 _ 58 (0, 0) hS
                  have HT := Lib.hid hT
                  clear hT hdep
                  clear hS
                  refine .inl ?_
                  unfold Oper.wp
                  go_simp
                  exact (HI.out _ _ _).2 ⟨_, _, _, _, _, _, _, _, _, _, _, _, rfl, (HT.out).put 6 6 (.int .i64 (X)) (by decide) rfl⟩
                · obtain rfl := Option.some.inj ho
                  have HT := Lib.hid hT
                  clear hT hdep
                  refine .inl ?_
                  unfold Oper.wp
                  go_simp
                  exact (HI.out _ _ _).2 ⟨_, _, _, _, _, _, _, _, _, _, _, _, rfl, (HT.out).put 7 7 (.pointer (some ⟨p, 1, none⟩)) (by decide) rfl⟩
                · obtain rfl := Option.some.inj ho
                  have e7 := hT.vals _ (List.Mem.tail _ (List.Mem.tail _ (List.Mem.tail _ (List.Mem.tail _ (List.Mem.tail _ (List.Mem.tail _ (List.Mem.tail _ (List.Mem.head _)))))))) (hdep ⟨7, .data⟩ (by simp) rfl)
                  dsimp only at e7
                  subst e7
                  have hS := hT.any (fun w' => w'.heap[p]? = some (.cells #[.int .i64 X, .int .i64 Y] 58 (0, 0))) (fun _ h => h.2.1) (fun _ h => h.2.1) (fun _ h => h.2.1)
                  have l0 : wc.cell? ⟨p, 1, none⟩ = some (.int .i64 Y) := cell_of_row _ _ 1 _ 58 (0, 0) hS
                  have HT := Lib.hid hT
                  clear hT hdep
                  clear hS
                  refine .inl ?_
                  unfold Oper.wp
                  go_simp
                  exact (HI.out _ _ _).2 ⟨_, _, _, _, _, _, _, _, _, _, _, _, rfl, (HT.out).put 8 8 (.int .i64 (Y)) (by decide) rfl⟩
                · obtain rfl := Option.some.inj ho
                  have e8 := hT.vals _ (List.Mem.tail _ (List.Mem.tail _ (List.Mem.tail _ (List.Mem.tail _ (List.Mem.tail _ (List.Mem.tail _ (List.Mem.tail _ (List.Mem.tail _ (List.Mem.head _))))))))) (hdep ⟨8, .data⟩ (by simp) rfl)
                  dsimp only at e8
                  subst e8
                  have HT := Lib.hid hT
                  clear hT hdep
                  refine .inl ?_
                  unfold Oper.wp
                  go_simp
                  exact (HI.out _ _ _).2 ⟨_, _, _, _, _, _, _, _, _, _, _, _, rfl, (HT.out).put 9 9 (.int .i64 (-Y)) (by decide) rfl⟩
                · obtain rfl := Option.some.inj ho
                  have e1 := hT.vals _ (List.Mem.tail _ (List.Mem.head _)) (hdep ⟨1, .data⟩ (by simp) rfl)
                  dsimp only at e1
                  subst e1
                  have HT := Lib.hid hT
                  clear hT hdep
                  refine .inl ?_
                  unfold Oper.wp
                  go_simp
                  exact (HI.out _ _ _).2 ⟨_, _, _, _, _, _, _, _, _, _, _, _, rfl, (HT.out).put 10 10 (.pointer (some ⟨a, N2, none⟩)) (by decide) rfl⟩
                · obtain rfl := Option.some.inj ho
                  have e10 := hT.vals _ (List.Mem.tail _ (List.Mem.tail _ (List.Mem.tail _ (List.Mem.tail _ (List.Mem.tail _ (List.Mem.tail _ (List.Mem.tail _ (List.Mem.tail _ (List.Mem.tail _ (List.Mem.tail _ (List.Mem.head _))))))))))) (hdep ⟨10, .data⟩ (by simp) rfl)
                  dsimp only at e10
                  subst e10
                  have e6 := hT.vals _ (List.Mem.tail _ (List.Mem.tail _ (List.Mem.tail _ (List.Mem.tail _ (List.Mem.tail _ (List.Mem.tail _ (List.Mem.head _))))))) (hdep ⟨6, .data⟩ (by simp) rfl)
                  dsimp only at e6
                  subst e6
                  have hpre : ∀ e ∈ [], dn e = true := by
                    intro e he
                    cases he
                  have hS := hT.at0 11 hd (by decide)
                  have l0 := hS.1.A.cell N2 hbd.out.1
                  have f0 := hS.1.A.free N2
                  have hnew := Lib.hid (hS.set N2 X)
                  have HT := Lib.hid hT
                  clear hT hdep hS
                  refine .inl ?_
                  unfold Oper.wp
                  go_simp
                  exact (HI.out _ _ _).2 ⟨_, _, _, _, _, _, _, _, _, _, _, _, rfl, HT.out.fst hd (by decide) hpre rfl hnew.out⟩
                · obtain rfl := Option.some.inj ho
                  have e4 := hT.vals _ (List.Mem.tail _ (List.Mem.tail _ (List.Mem.tail _ (List.Mem.tail _ (List.Mem.head _))))) (hdep ⟨4, .data⟩ (by simp) rfl)
                  dsimp only at e4
                  subst e4
                  have HT := Lib.hid hT
                  clear hT hdep
                  refine .inl ?_
                  unfold Oper.wp
                  go_simp
                  exact (HI.out _ _ _).2 ⟨_, _, _, _, _, _, _, _, _, _, _, _, rfl, (HT.out).put 12 11 (.pointer (some ⟨a, M, none⟩)) (by decide) rfl⟩
                · obtain rfl := Option.some.inj ho
                  have e12 := hT.vals _ (List.Mem.tail _ (List.Mem.tail _ (List.Mem.tail _ (List.Mem.tail _ (List.Mem.tail _ (List.Mem.tail _ (List.Mem.tail _ (List.Mem.tail _ (List.Mem.tail _ (List.Mem.tail _ (List.Mem.tail _ (List.Mem.head _)))))))))))) (hdep ⟨12, .data⟩ (by simp) rfl)
                  dsimp only at e12
                  subst e12
                  have e9 := hT.vals _ (List.Mem.tail _ (List.Mem.tail _ (List.Mem.tail _ (List.Mem.tail _ (List.Mem.tail _ (List.Mem.tail _ (List.Mem.tail _ (List.Mem.tail _ (List.Mem.tail _ (List.Mem.head _)))))))))) (hdep ⟨9, .data⟩ (by simp) rfl)
                  dsimp only at e9
                  subst e9
                  have hi1 := hdep ⟨11, .chain⟩ (by simp) rfl
                  have hS := hT.at1 hd hi1
                  have l0 := hS.1.A.cell M hbd.out.2
                  have f0 := hS.1.A.free M
                  have hnew := Lib.hid (hS.set M (-Y))
                  have HT := Lib.hid hT
                  clear hT hdep hS
                  refine .inl ?_
                  unfold Oper.wp
                  go_simp
                  exact (HI.out _ _ _).2 ⟨_, _, _, _, _, _, _, _, _, _, _, _, rfl, HT.out.snd (by decide) hi1 rfl hnew.out⟩
                · cases ho
              · intro dn ac wc hd hIn
                obtain ⟨s50, s51, s52, s53, s54, s55, s56, s57, s58, s59, s60, s61, rfl, hT⟩ := (HI.out _ _ _).1 hIn
                have hF := Lib.hid (hT.done (hd 13 (by decide)))
                clear HI hIn hT hd
                have hN := Lib.hid (hfin.out _ hF.out)
                clear hF hfin
                go_wp2
                go_roundw
                case rel => exact ⟨k + 1, by omega, by go_num, hN⟩
                case measure => simp [intOf]; omega
            · rw [show (k : Int) = 16 by omega]
              obtain rfl : k = 16 := by omega
              have hfg : ∀ i, i < 32 → out2 f v 16 i = waves f i := fun i hi => by
                rw [hvw.out]; unfold out2; split <;> rw [if_pos (by omega)]
              have hA1 := hA.out.congr hfg (fun _ _ => rfl)
              obtain ⟨G, hG⟩ : ∃ G, G = waves f := ⟨_, rfl⟩
              have HG := Lib.hid hG
              rw [← hG] at hA1
              have hcur := hA1.A
              have hres := hA1.R
              have HD := Lib.hid (hA1.done G)
              have hs5 := Lib.hid (HS4.out G)
              have hold : Hid ((iv 32 fun _ => 0).size = (iv 32 G).size) := by show _ = _; rw [iv_size, iv_size]
              unfold Blk at hcur hres
              clear hA hA1 hG hfg
              go_wp2_with (first | (refine wpList_load_row rfl 47 _ rfl a rfl 47 (iv 32 G) (0, 0) _ hcur Try.underlying47 rfl hs5.out ?_) | (refine wpList_store_row rfl 47 _ _ rfl r (iv 32 G) rfl rfl 47 _ hres hs5.out hold.out (iv_one 32 G) ?_))
              exact bodyPost_ret (v := .agg (iv 32 G)) (results_cell_row Try.results17 _ _ r 47 _ (0, 0) _ rfl HD.out.1 Try.underlying47 rfl hs5.out) rfl ⟨by rw [HG.out], HD.out.2⟩
end Go.Proofs.Ythoemgiadadfcaa
