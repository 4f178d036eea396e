/- The way back from waves: the walk of dct.Back. -/
import Derived.Test.YthoemgiadadfcaaWsWv
set_option linter.unusedVariables false
set_option linter.unusedSimpArgs false
namespace Go.Proofs.Ythoemgiadadfcaa
open Go.RowKit Go.Sort Ws
namespace Ws
/-- The wheel behind k points on the way back in. -/
def bin (f : F) (k : Nat) : F := fun x => if flip (x / 2) < k then b1 f x else 0
def wb (v : F) (n : Nat) : F := fun x => if x < 2 * n then pk x (bk (v (2 * (x / 2))) (v (2 * (x / 2) + 1)) (edge (x / 2))) else v x
def bo (f v : F) (n : Nat) : F := fun c => if c % 2 = 0 then (if c / 2 < n then b6 v c else f c) else (if (31 - c) / 2 < n then b6 v c else f c)
end Ws
theorem bin_step (f : F) (k : Nat) (hk : k < 16) : ∀ x, x < 32 → backAt (flip k) (edge k) (fun x => if flip k * 2 ≤ x ∧ x < flip k * 2 + 2 then (if x - flip k * 2 = 1 then -f (31 - 2 * k) else f (2 * k)) else bin f k x) x = bin f (k + 1) x := by
  intro x hx
  have hl := flip_lt k
  have e0 : (fun x => if flip k * 2 ≤ x ∧ x < flip k * 2 + 2 then (if x - flip k * 2 = 1 then -f (31 - 2 * k) else f (2 * k)) else bin f k x) (2 * flip k) = f (2 * k) := by
    show (if _ then _ else _) = _
    rw [if_pos (by omega), if_neg (by omega)]
  have e1 : (fun x => if flip k * 2 ≤ x ∧ x < flip k * 2 + 2 then (if x - flip k * 2 = 1 then -f (31 - 2 * k) else f (2 * k)) else bin f k x) (2 * flip k + 1) = -f (31 - 2 * k) := by
    show (if _ then _ else _) = _
    rw [if_pos (by omega), if_pos (by omega)]
  unfold backAt po
  rw [e0, e1]
  by_cases h1 : x = 2 * flip k + 1
  · rw [if_pos h1, h1]
    unfold bin b1 pk
    rw [show (2 * flip k + 1) / 2 = flip k by omega, flip_flip k hk, if_pos (by omega), if_neg (by omega)]
  · rw [if_neg h1]
    by_cases h2 : x = 2 * flip k
    · rw [if_pos h2, h2]
      unfold bin b1 pk
      rw [show (2 * flip k) / 2 = flip k by omega, flip_flip k hk, if_pos (by omega), if_pos (by omega)]
    · rw [if_neg h2]
      show (if _ then _ else _) = _
      rw [if_neg (by omega)]
      unfold bin
      have hne : flip (x / 2) ≠ k := fun he => by
        have := flip_inj (by omega) hk he
        omega
      by_cases h3 : flip (x / 2) < k
      · rw [if_pos h3, if_pos (by omega)]
      · rw [if_neg h3, if_neg (by omega)]
theorem wb_step (v : F) (n : Nat) : backAt n (edge n) (wb v n) = wb v (n + 1) := by
  funext x
  have e0 : wb v n (2 * n) = v (2 * n) := by unfold wb; rw [if_neg (by omega)]
  have e1 : wb v n (2 * n + 1) = v (2 * n + 1) := by unfold wb; rw [if_neg (by omega)]
  unfold backAt po
  rw [e0, e1]
  by_cases h1 : x = 2 * n + 1
  · rw [if_pos h1, h1]
    unfold wb pk
    rw [if_pos (by omega), show (2 * n + 1) / 2 = n by omega, if_neg (by omega)]
  · rw [if_neg h1]
    by_cases h2 : x = 2 * n
    · rw [if_pos h2, h2]
      unfold wb pk
      rw [if_pos (by omega), show (2 * n) / 2 = n by omega, if_pos (by omega)]
    · rw [if_neg h2]
      unfold wb
      by_cases h3 : x < 2 * n
      · rw [if_pos h3, if_pos (by omega)]
      · rw [if_neg h3, if_neg (by omega)]
theorem bo_step (f v : F) (n : Nat) (hn : n < 16) : ∀ x, x < 32 → (if x = 31 - 2 * n then wb v (n + 1) (2 * n + 1) else if x = 2 * n then wb v (n + 1) (2 * n) else bo f v n x) = bo f v (n + 1) x := by
  intro x hx
  have e0 : wb v (n + 1) (2 * n) = (bk (v (2 * n)) (v (2 * n + 1)) (edge n)).1 := by unfold wb pk; rw [if_pos (by omega), if_pos (by omega), show (2 * n) / 2 = n by omega]
  have e1 : wb v (n + 1) (2 * n + 1) = (bk (v (2 * n)) (v (2 * n + 1)) (edge n)).2 := by unfold wb pk; rw [if_pos (by omega), if_neg (by omega), show (2 * n + 1) / 2 = n by omega]
  rw [e0, e1]
  by_cases h1 : x = 31 - 2 * n
  · rw [if_pos h1]
    unfold bo b6
    rw [if_neg (by omega), if_pos (by omega), if_neg (by omega), show (31 - x) / 2 = n by omega]
  · rw [if_neg h1]
    by_cases h2 : x = 2 * n
    · rw [if_pos h2]
      unfold bo b6
      rw [if_pos (by omega), if_pos (by omega), if_pos (by omega), show x / 2 = n by omega]
    · rw [if_neg h2]
      unfold bo
      by_cases h3 : x % 2 = 0
      · rw [if_pos h3, if_pos h3]
        by_cases h4 : x / 2 < n
        · rw [if_pos h4, if_pos (by omega)]
        · rw [if_neg h4, if_neg (by omega)]
      · rw [if_neg h3, if_neg h3]
        by_cases h4 : (31 - x) / 2 < n
        · rw [if_pos h4, if_pos (by omega)]
        · rw [if_neg h4, if_neg (by omega)]
set_option maxRecDepth 100000 in
set_option maxHeartbeats 6400000 in
theorem waveb_is (f : F) (hf : Bd 16777216 f) (w : World) : Calls Try.prog 20 #[.agg (iv 32 f)] w fun e w' => e = .returned (.agg (iv 32 (waveb f))) ∧ Below w.heap.size w w' := by
  have hz := zero47
  have hz6 := zero60
  have hz5 : ∀ w, (zeroValue 58).run Try.prog w = .ok (.agg #[.int .i64 0, .int .i64 0]) w := zero58
  have HBF : Hid (∀ i, -1073741824 ≤ f i ∧ f i ≤ 1073741824) := fun i => by have := hf i; omega
  have hs4 := fun f => size47 f
  have HS4 := Lib.hid hs4
  have a1 : Below w.heap.size w (w.alloc (.cells (iv 32 f) 47)) := (Below.refl _ _).alloc (Nat.le_refl _) _
  have a2 : Below (w.alloc (.cells (iv 32 f) 47)).heap.size (w.alloc (.cells (iv 32 f) 47)) ((w.alloc (.cells (iv 32 f) 47)).alloc (.cells (iv 32 fun _ => 0) 47)) := (Below.refl _ _).alloc (Nat.le_refl _) _
  have hA0 : Hid (Blk ((w.alloc (.cells (iv 32 f) 47)).alloc (.cells (iv 32 fun _ => 0) 47)) w.heap.size 47 32 f) := (Blk.new w 47 32 f).below a2
  have hR0 : Hid (Blk ((w.alloc (.cells (iv 32 f) 47)).alloc (.cells (iv 32 fun _ => 0) 47)) (w.heap.size + 1) 47 32 fun _ => 0) := by
    have h2 := Blk.new (w.alloc (.cells (iv 32 f) 47)) 47 32 fun _ => 0
    rw [World.size_alloc] at h2
    exact h2
  have hBW : Hid (Below w.heap.size w ((w.alloc (.cells (iv 32 f) 47)).alloc (.cells (iv 32 fun _ => 0) 47))) := a1.alloc a1.size _
  clear hf a1 a2 hs4
  go_enter Try.func20, Try.ntmps20
  go_upto_region 1 with (fail)
  generalize (w.alloc (.cells (iv 32 f) 47)).alloc (.cells (iv 32 fun _ => 0) 47) = W at *
  obtain ⟨r, hr0⟩ : ∃ r, r = w.heap.size + 1 := ⟨_, rfl⟩
  obtain ⟨a, ha0⟩ : ∃ a, a = w.heap.size := ⟨_, rfl⟩
  have hnew : Hid (w.heap.size ≤ a ∧ w.heap.size ≤ r ∧ a ≠ r) := by show _ ∧ _; omega
  rw [← hr0] at hR0
  rw [← hr0]
  rw [← ha0] at hA0
  rw [← ha0]
  clear hr0 ha0
  have hrow := hA0.out
  unfold Blk at hrow
  have hs47 := Lib.hid (HS4.out f)
  have hheldW := held_is f (fun i _ => HBF.out i) W
  go_upto_region 3 with (first | (refine wpList_load_row rfl 47 _ rfl a rfl 47 (iv 32 f) (0, 0) _ hrow Try.underlying47 rfl hs47.out ?_) | (go_at_call 28; (with_reducible refine hheldW.mono ?_); rintro e wa ⟨rfl, hb1⟩; have HB1 := Lib.hid hb1; clear hb1 hheldW))
  have hV0 : Hid (Wv w (wa.alloc (.cells (iv 32 fun _ => 0) 60)) a r wa.heap.size f (bin f 0)) := by
    have hb := hBW.out.trans (HB1.out.mono hBW.out.size)
    have a3 : Below wa.heap.size wa (wa.alloc (.cells (iv 32 fun _ => 0) 60)) := (Below.refl _ _).alloc (Nat.le_refl _) _
    have l1 := hA0.out.lt
    have l2 := hR0.out.lt
    have l3 := HB1.out.size
    have hn := hnew.out
    exact ⟨(hA0.out.below HB1.out).below a3, (hR0.out.below HB1.out).below a3, (Blk.new wa 60 32 _).congr fun i _ => by unfold bin; rw [if_neg (by omega)], hb.trans (a3.mono hb.size), ⟨hn.1, hn.2.1, hb.size⟩, hn.2.2, by omega, by omega⟩
  go_upto_region 4 with (fail)
  generalize wa.alloc (.cells (iv 32 fun _ => 0) 60) = W1 at *
  generalize wa.heap.size = c at *
  clear hA0 hR0 hBW HB1 hnew hrow hz6
  go_wp2
  go_loopw [11] (fun q wr => ∃ k : Nat, k ≤ 16 ∧ q = .int .i64 k ∧ Hid (Wv w wr a r c f (bin f k))) (fun q _ => 16 - (intOf q).toNat)
  case atStart => exact ⟨0, by omega, rfl, hV0⟩
  case round =>
    clear hV0
    obtain ⟨k, hk, rfl, hA⟩ := hrel
    obtain ⟨wo, rfl⟩ : ∃ wo : World, wo = wr := ⟨_, rfl⟩
    by_cases hlt : k < 16
    · obtain ⟨N2, hN2⟩ : ∃ N2, N2 = 2 * k := ⟨_, rfl⟩
      obtain ⟨M, hM⟩ : ∃ M, M = 31 - 2 * k := ⟨_, rfl⟩
      have e1 : 2 * (k : Int) = (N2 : Int) := by omega
      have e2 : 31 - (N2 : Int) = (M : Int) := by omega
      have l0 := hA.out.A.cell N2 (by omega)
      have l1 := hA.out.A.cell M (by omega)
      have hNM : (N2 : Int) < 32 ∧ (M : Int) < 32 := by omega
      obtain ⟨hN3, hM3⟩ := hNM
      have hkI : (k : Int) < 16 := by omega
      have hst := bin_step f k hlt
      rw [← hM, ← hN2] at hst
      have hfl := fun w => (flip_is k hlt w).mono (fun e w' h => (⟨h.1, h.2.symm⟩ : _ ∧ w = w'))
      have hed := fun w => (edge_is k hlt w).mono (fun e w' h => (⟨h.1, h.2.symm⟩ : _ ∧ w = w'))
      have htu := fun q g w h => wback_is (flip k) (flip_lt k) q c g w h
      obtain ⟨L, hL⟩ : ∃ L, L = flip k := ⟨_, rfl⟩
      have hLl : L < 16 := by rw [hL]; exact flip_lt k
      have hLI : (L : Int) < 16 := by omega
      rw [← hL] at hfl htu hst
      have htu := Lib.hid htu
      have hfq : ∀ w, Calls Try.prog 33 #[.int .i64 k] w fun e w' => e = .returned (.int .i64 (L : Nat)) ∧ ∃ m, w' = w.drewN m := fun w => (hfl w).mono fun e w' h => ⟨h.1, 0, h.2.symm⟩
      have hthd := Lib.hid fun m => ((hA.out.drewN m).C.there (L * 2) 2 (by omega))
      obtain ⟨x, hx⟩ : ∃ x, f N2 = x := ⟨_, rfl⟩
      obtain ⟨y, hy⟩ : ∃ y, f M = y := ⟨_, rfl⟩
      have hyb : -1073741824 ≤ y ∧ y ≤ 1073741824 := by rw [← hy]; exact HBF.out M
      obtain ⟨hyl, hyu⟩ := hyb
      rw [hx] at l0
      rw [hy] at l1
      rw [hx, hy] at hst
      have hs2 : Hid ((Try.prog.info? 58).map (·.size) = some (#[Value.int .i64 x, .int .i64 (-y)]).size) := size58 fun _ => 0
      have hone : Hid ((#[Value.int .i64 x, .int .i64 (-y)]).all (·.oneCell') = true) := by show _ = _; simp [Value.oneCell']
      have hN : Hid (∀ m, Wv w ((wo.drewN m).setCells c (L * 2) [.int .i64 x, .int .i64 (-y)]) a r c f (fun z => if L * 2 ≤ z ∧ z < L * 2 + 2 then (if z - L * 2 = 1 then -y else x) else bin f k z)) := fun m => (hA.out.drewN m).put (L * 2) 2 fun i => if i = 1 then -y else x
      have HST := Lib.hid hst
      generalize edge k = E at *
      clear hx hy hN2 hM hA hL hst
      go_upto_region 7 with (fail)
      refine wp_region_quiet_tail 14 (by kernel_rfl) (by kernel_rfl) ?_
      simp only [List.take_succ_cons, List.take_zero, List.drop_succ_cons, List.drop_zero]
      repeat (go_big_quiet_step ((exact quiet_of (hfq _))))
      refine wpQuiet_nil ?_
      intro _ hw'
      obtain ⟨nq, hw''⟩ := hw'
      subst hw''
      have hth := hthd.out nq
      have hN := Lib.hid (hN.out nq)
      generalize wo.drewN nq = W2 at *
      go_upto_region 8 with (refine wpList_store_mid rfl 58 _ _ rfl c (L * 2) #[.int .i64 x, .int .i64 (-y)] rfl rfl hth hs2.out hone.out ?_)
      generalize W2.setCells c (L * 2) [.int .i64 x, .int .i64 (-y)] = W3 at *
      have q9 := htu.out E _ W3 hN.out.C
      have hnx : Hid (∀ w9, Wk W3 c 60 32 _ w9 → Wv w w9 a r c f (bin f (k + 1))) := fun w9 h9 => (hN.out.setC h9).congr (fun _ _ => rfl) fun i hi => HST.out i hi
      clear hth l0 l1 hthd
      go_wp2_with (first | (go_at_call 33; (with_reducible refine (hfl _).mono ?_); rintro e w8 ⟨rfl, h8⟩; subst h8) | (go_at_call 30; (with_reducible refine (hed _).mono ?_); rintro e w8 ⟨rfl, h8⟩; subst h8) | (go_at_call 34; (with_reducible refine q9.mono ?_); rintro e w9 ⟨rfl, h9⟩; have H9 := Lib.hid (hnx.out w9 h9); clear h9 q9))
      go_roundw
      case rel => exact ⟨k + 1, by omega, by go_num, H9⟩
      case measure => simp [intOf]; omega
    · rw [show (k : Int) = 16 by omega]
      obtain rfl : k = 16 := by omega
      have hV1 : Hid (Wv w wo a r c f (b1 f)) := hA.out.congr (fun _ _ => rfl) fun i hi => by unfold bin; rw [if_pos (flip_lt _)]
      have hE : Hid (b5 f = Ws.run Ws.behind (stL 16) (Ws.run Ws.behind (stL 8) (Ws.run Ws.behind (stL 4) (Ws.run Ws.behind (stL 2) (b1 f))))) := rfl
      have c1 := Lib.hid fun g w h => stage_behind2 c g w h
      have c2 := Lib.hid fun g w h => stage_behind4 c g w h
      have c3 := Lib.hid fun g w h => stage_behind8 c g w h
      have c4 := Lib.hid fun g w h => stage_behind16 c g w h
      obtain ⟨v0, hv0⟩ : ∃ v0, v0 = b1 f := ⟨_, rfl⟩
      obtain ⟨v1, hv1⟩ : ∃ v1, v1 = Ws.run Ws.behind (stL 2) v0 := ⟨_, rfl⟩
      obtain ⟨v2, hv2⟩ : ∃ v2, v2 = Ws.run Ws.behind (stL 4) v1 := ⟨_, rfl⟩
      obtain ⟨v3, hv3⟩ : ∃ v3, v3 = Ws.run Ws.behind (stL 8) v2 := ⟨_, rfl⟩
      obtain ⟨v4, hv4⟩ : ∃ v4, v4 = Ws.run Ws.behind (stL 16) v3 := ⟨_, rfl⟩
      rw [← hv0] at hV1
      have hE5 : Hid (b5 f = v4) := by show _ = _; rw [hE.out, hv4, hv3, hv2, hv1, hv0]
      have hv1 := Lib.hid hv1
      have hv2 := Lib.hid hv2
      have hv3 := Lib.hid hv3
      have hv4 := Lib.hid hv4
      clear hA hE hv0 hk hlt
      go_wp2
      go_loopw [5] (fun q wr => (q = .int .i64 2 ∧ Hid (Wv w wr a r c f v0)) ∨ (q = .int .i64 4 ∧ Hid (Wv w wr a r c f v1)) ∨ (q = .int .i64 8 ∧ Hid (Wv w wr a r c f v2)) ∨ (q = .int .i64 16 ∧ Hid (Wv w wr a r c f v3)) ∨ (q = .int .i64 32 ∧ Hid (Wv w wr a r c f v4))) (fun q _ => 32 - (intOf q).toNat)
      case atStart => exact .inl ⟨rfl, hV1⟩
      case round =>
        clear hV1
        obtain ⟨wo, rfl⟩ : ∃ wo : World, wo = wr := ⟨_, rfl⟩
        rcases hrel with ⟨rfl, hA⟩ | ⟨rfl, hA⟩ | ⟨rfl, hA⟩ | ⟨rfl, hA⟩ | ⟨rfl, hA⟩
        · have q1 := c1.out v0 wo hA.out.C
          rw [← hv1.out] at q1
          go_wp2_with (go_at_call 31; (with_reducible refine q1.mono ?_); rintro e w9 ⟨rfl, h9⟩; have hN := Lib.hid (hA.out.setC h9); clear h9 q1)
          go_roundw
          case rel => exact .inr (.inl ⟨rfl, hN⟩)
          case measure => simp [intOf]
        · have q1 := c2.out v1 wo hA.out.C
          rw [← hv2.out] at q1
          go_wp2_with (go_at_call 31; (with_reducible refine q1.mono ?_); rintro e w9 ⟨rfl, h9⟩; have hN := Lib.hid (hA.out.setC h9); clear h9 q1)
          go_roundw
          case rel => exact .inr (.inr (.inl ⟨rfl, hN⟩))
          case measure => simp [intOf]
        · have q1 := c3.out v2 wo hA.out.C
          rw [← hv3.out] at q1
          go_wp2_with (go_at_call 31; (with_reducible refine q1.mono ?_); rintro e w9 ⟨rfl, h9⟩; have hN := Lib.hid (hA.out.setC h9); clear h9 q1)
          go_roundw
          case rel => exact .inr (.inr (.inr (.inl ⟨rfl, hN⟩)))
          case measure => simp [intOf]
        · have q1 := c4.out v3 wo hA.out.C
          rw [← hv4.out] at q1
          go_wp2_with (go_at_call 31; (with_reducible refine q1.mono ?_); rintro e w9 ⟨rfl, h9⟩; have hN := Lib.hid (hA.out.setC h9); clear h9 q1)
          go_roundw
          case rel => exact .inr (.inr (.inr (.inr (⟨rfl, hN⟩))))
          case measure => simp [intOf]
        · obtain ⟨v, hv⟩ : ∃ v, v = b5 f := ⟨_, rfl⟩
          rw [← hE5.out, ← hv] at hA
          have hvw : Hid (waveb f = b6 v) := by show _ = _; rw [hv]; rfl
          have hV2 : Hid (Wv w wo a r c (bo f v 0) (wb v 0)) := hA.out.congr (fun i hi => by unfold bo; split <;> rw [if_neg (by omega)]) fun i hi => by unfold wb; rw [if_neg (by omega)]
          clear hA hv1 hv2 hv3 hv4 c1 c2 c3 c4 hE5 hv
          go_wp2
          go_loopw [40] (fun q wr => ∃ n : Nat, n ≤ 16 ∧ q = .int .i64 n ∧ Hid (Wv w wr a r c (bo f v n) (wb v n))) (fun q _ => 16 - (intOf q).toNat)
          case atStart => exact ⟨0, by omega, rfl, hV2⟩
          case round =>
            clear hV2
            obtain ⟨n, hn, rfl, hA⟩ := hrel
            obtain ⟨wo, rfl⟩ : ∃ wo : World, wo = wr := ⟨_, rfl⟩
            by_cases hlt : n < 16
            · have hed := fun w => (edge_is n hlt w).mono (fun e w' h => (⟨h.1, h.2.symm⟩ : _ ∧ w = w'))
              have q9 := wback_is n hlt (edge n) c (wb v n) wo hA.out.C
              rw [wb_step] at q9
              have hs2 := Lib.hid (bo_step f v n hlt)
              have hnI : (n : Int) < 16 := by omega
              generalize edge n = E at *
              have hnx : Hid (∀ w9, Wk wo c 60 32 (wb v (n + 1)) w9 → Wv w w9 a r c (bo f v n) (wb v (n + 1))) := fun w9 h9 => hA.out.setC h9
              clear hA
              go_upto_region 18 with (first | (go_at_call 30; (with_reducible refine (hed _).mono ?_); rintro e w8 ⟨rfl, h8⟩; subst h8) | (go_at_call 34; (with_reducible refine q9.mono ?_); rintro e w9 ⟨rfl, h9⟩; have H9 := Lib.hid (hnx.out w9 h9); clear h9 q9))
              obtain ⟨N2, hN2⟩ : ∃ N2, N2 = 2 * n := ⟨_, rfl⟩
              obtain ⟨M, hM⟩ : ∃ M, M = 31 - 2 * n := ⟨_, rfl⟩
              have e1 : 2 * (n : Int) = (N2 : Int) := by omega
              have e2 : 31 - (N2 : Int) = (M : Int) := by omega
              have ew1 : IntKind.i64.wrap (N2 : Int) = (N2 : Int) := by rw [IntKind.wrap_i64]; omega
              have ew2 : IntKind.i64.wrap (M : Int) = (M : Int) := by rw [IntKind.wrap_i64]; omega
              have hNM : (N2 : Int) < 32 ∧ (M : Int) < 32 := by omega
              obtain ⟨hN3, hM3⟩ := hNM
              have hbd : Hid (N2 < 32 ∧ M < 32 ∧ n * 2 < 32 ∧ n * 2 + 1 < 32) := by show _ ∧ _; omega
              obtain ⟨X, hX⟩ : ∃ X, wb v (n + 1) (n * 2) = X := ⟨_, rfl⟩
              obtain ⟨Y, hY⟩ : ∃ Y, wb v (n + 1) (n * 2 + 1) = Y := ⟨_, rfl⟩
              have hfin : Hid (∀ W6, Wv w W6 a r c (fun m => if m = M then Y else if m = N2 then X else bo f v n m) (wb v (n + 1)) → Wv w W6 a r c (bo f v (n + 1)) (wb v (n + 1))) := fun W6 h6 => h6.congr (fun i hi => by rw [← hX, ← hY, hM, hN2, show n * 2 = 2 * n by omega]; exact hs2.out i hi) fun _ _ => rfl
              have hX := Lib.hid hX
              have hY := Lib.hid hY
              clear hN2 hM
              obtain ⟨I, hI⟩ : ∃ I : (Nat → Bool) → Act → World → Prop, ∀ dn ac wc, I dn ac wc ↔ ∃ s47 s48 s49 s50 s51 s52 s53 s54 s55 s56 s57 s58 s59 s60 s61, ac = ⟨#[Value.agg (iv 32 f), Value.pointer (some { block := a, off := 0 }), Value.pointer (some { block := r, off := 0 }), Value.pointer (some { block := c, off := 0 }), u4, Value.int IntKind.i64 32, Value.int IntKind.i64 ↑n, Value.agg (iv 32 f), Value.bool true, Value.bool false, undef, Value.int IntKind.i64 16, Value.bool false, u13, u14, u15, u16, u17, u18, u19, u20, u21, u22, u23, u24, u25, u26, u27, u28, u29, u30, u31, u32, u33, Value.int IntKind.i64 32, Value.bool false, u36, u37, u38, u39, Value.int IntKind.i64 ↑n, Value.bool true, Value.int IntKind.i64 ↑n, Value.int IntKind.i64 ↑n, Value.int IntKind.i64 ↑n, Value.int IntKind.i64 E, Value.tuple #[], s47, s48, s49, s50, s51, s52, s53, s54, s55, s56, s57, s58, s59, s60, s61, u62, undef], []⟩ ∧
                St2 wc dn [(0, .int .i64 (n : Nat), s47), (1, .int .i64 (N2 : Nat), s48), (2, .int .i64 (n : Nat), s49), (3, .int .i64 (N2 : Nat), s50), (4, .int .i64 (M : Nat), s51), (5, .int .i64 (n : Nat), s52), (6, .pointer (some ⟨c, n * 2, none⟩), s53), (7, .pointer (some ⟨c, n * 2, none⟩), s54), (8, .int .i64 (X), s55), (9, .int .i64 (n : Nat), s56), (10, .pointer (some ⟨c, n * 2, none⟩), s57), (11, .pointer (some ⟨c, n * 2 + 1, none⟩), s58), (12, .int .i64 (Y), s59), (13, .pointer (some ⟨a, N2, none⟩), s60), (15, .pointer (some ⟨a, M, none⟩), s61)] (fun w' => Wv w w' a r c (bo f v n) (wb v (n + 1))) (fun w' => Wv w w' a r c (fun m => if m = N2 then X else bo f v n m) (wb v (n + 1))) (fun w' => Wv w w' a r c (fun m => if m = M then Y else if m = N2 then X else bo f v n m) (wb v (n + 1))) 14 16 [] := ⟨_, fun _ _ _ => Iff.rfl⟩
              have HI := Lib.hid hI
              clear hI
              refine wp_region_inv (by kernel_rfl) (by kernel_rfl) I ?_ ?_ ?_
              · exact (HI.out _ _ _).2 ⟨_, _, _, _, _, _, _, _, _, _, _, _, _, _, _, rfl, St2.start _ _ _ _ _ _ _ _ H9.out (fun _ _ h hb => h.later hb)⟩
              · intro i o dn ac wc ho hd hdep hIn
                obtain ⟨s47, s48, s49, s50, s51, s52, s53, s54, s55, s56, s57, s58, s59, s60, s61, rfl, hT⟩ := (HI.out _ _ _).1 hIn
                clear hIn
                rcases i with _ | _ | _ | _ | _ | _ | _ | _ | _ | _ | _ | _ | _ | _ | _ | _ | _ | i
                · obtain rfl := Option.some.inj ho
                  have HT := Lib.hid hT
                  clear hT hdep
                  refine .inl ?_
                  unfold Oper.wp
                  go_simp
                  exact (HI.out _ _ _).2 ⟨_, _, _, _, _, _, _, _, _, _, _, _, _, _, _, rfl, (HT.out).put 0 0 (.int .i64 (n : Nat)) (by decide) rfl⟩
                · obtain rfl := Option.some.inj ho
                  have e0 := hT.vals _ (List.Mem.head _) (hdep ⟨0, .data⟩ (by simp) rfl)
                  dsimp only at e0
                  subst e0
                  have HT := Lib.hid hT
                  clear hT hdep
                  refine .inl ?_
                  unfold Oper.wp
                  go_simp
                  exact (HI.out _ _ _).2 ⟨_, _, _, _, _, _, _, _, _, _, _, _, _, _, _, rfl, (HT.out).put 1 1 (.int .i64 (N2 : Nat)) (by decide) rfl⟩
                · obtain rfl := Option.some.inj ho
                  have HT := Lib.hid hT
                  clear hT hdep
                  refine .inl ?_
                  unfold Oper.wp
                  go_simp
                  exact (HI.out _ _ _).2 ⟨_, _, _, _, _, _, _, _, _, _, _, _, _, _, _, rfl, (HT.out).put 2 2 (.int .i64 (n : Nat)) (by decide) rfl⟩
                · obtain rfl := Option.some.inj ho
                  have e2 := hT.vals _ (List.Mem.tail _ (List.Mem.tail _ (List.Mem.head _))) (hdep ⟨2, .data⟩ (by simp) rfl)
                  dsimp only at e2
                  subst e2
                  have HT := Lib.hid hT
                  clear hT hdep
                  refine .inl ?_
                  unfold Oper.wp
                  go_simp
                  exact (HI.out _ _ _).2 ⟨_, _, _, _, _, _, _, _, _, _, _, _, _, _, _, rfl, (HT.out).put 3 3 (.int .i64 (N2 : Nat)) (by decide) rfl⟩
                · obtain rfl := Option.some.inj ho
                  have e3 := hT.vals _ (List.Mem.tail _ (List.Mem.tail _ (List.Mem.tail _ (List.Mem.head _)))) (hdep ⟨3, .data⟩ (by simp) rfl)
                  dsimp only at e3
                  subst e3
                  have HT := Lib.hid hT
                  clear hT hdep
                  refine .inl ?_
                  unfold Oper.wp
                  go_simp
                  exact (HI.out _ _ _).2 ⟨_, _, _, _, _, _, _, _, _, _, _, _, _, _, _, rfl, (HT.out).put 4 4 (.int .i64 (M : Nat)) (by decide) rfl⟩
                · obtain rfl := Option.some.inj ho
                  have HT := Lib.hid hT
                  clear hT hdep
                  refine .inl ?_
                  unfold Oper.wp
                  go_simp
                  exact (HI.out _ _ _).2 ⟨_, _, _, _, _, _, _, _, _, _, _, _, _, _, _, rfl, (HT.out).put 5 5 (.int .i64 (n : Nat)) (by decide) rfl⟩
                · obtain rfl := Option.some.inj ho
                  have e5 := hT.vals _ (List.Mem.tail _ (List.Mem.tail _ (List.Mem.tail _ (List.Mem.tail _ (List.Mem.tail _ (List.Mem.head _)))))) (hdep ⟨5, .data⟩ (by simp) rfl)
                  dsimp only at e5
                  subst e5
                  have HT := Lib.hid hT
                  clear hT hdep
                  refine .inl ?_
                  unfold Oper.wp
                  go_simp
                  exact (HI.out _ _ _).2 ⟨_, _, _, _, _, _, _, _, _, _, _, _, _, _, _, rfl, (HT.out).put 6 6 (.pointer (some ⟨c, n * 2, none⟩)) (by decide) rfl⟩
                · obtain rfl := Option.some.inj ho
                  have e6 := hT.vals _ (List.Mem.tail _ (List.Mem.tail _ (List.Mem.tail _ (List.Mem.tail _ (List.Mem.tail _ (List.Mem.tail _ (List.Mem.head _))))))) (hdep ⟨6, .data⟩ (by simp) rfl)
                  dsimp only at e6
                  subst e6
                  have HT := Lib.hid hT
                  clear hT hdep
                  refine .inl ?_
                  unfold Oper.wp
                  go_simp
                  exact (HI.out _ _ _).2 ⟨_, _, _, _, _, _, _, _, _, _, _, _, _, _, _, rfl, (HT.out).put 7 7 (.pointer (some ⟨c, n * 2, none⟩)) (by decide) rfl⟩
                · obtain rfl := Option.some.inj ho
                  have e7 := hT.vals _ (List.Mem.tail _ (List.Mem.tail _ (List.Mem.tail _ (List.Mem.tail _ (List.Mem.tail _ (List.Mem.tail _ (List.Mem.tail _ (List.Mem.head _)))))))) (hdep ⟨7, .data⟩ (by simp) rfl)
                  dsimp only at e7
                  subst e7
                  have hS := hT.any (fun w' => Blk w' c 60 32 (wb v (n + 1))) (fun _ h => h.C) (fun _ h => h.C) (fun _ h => h.C)
                  have l0 := hS.cell (n * 2) hbd.out.2.2.1
                  rw [hX.out] at l0
                  have HT := Lib.hid hT
                  clear hT hdep
                  clear hS
                  refine .inl ?_
                  unfold Oper.wp
                  go_simp
                  exact (HI.out _ _ _).2 ⟨_, _, _, _, _, _, _, _, _, _, _, _, _, _, _, rfl, (HT.out).put 8 8 (.int .i64 (X)) (by decide) rfl⟩
                · obtain rfl := Option.some.inj ho
                  have HT := Lib.hid hT
                  clear hT hdep
                  refine .inl ?_
                  unfold Oper.wp
                  go_simp
                  exact (HI.out _ _ _).2 ⟨_, _, _, _, _, _, _, _, _, _, _, _, _, _, _, rfl, (HT.out).put 9 9 (.int .i64 (n : Nat)) (by decide) rfl⟩
                · obtain rfl := Option.some.inj ho
                  have e9 := hT.vals _ (List.Mem.tail _ (List.Mem.tail _ (List.Mem.tail _ (List.Mem.tail _ (List.Mem.tail _ (List.Mem.tail _ (List.Mem.tail _ (List.Mem.tail _ (List.Mem.tail _ (List.Mem.head _)))))))))) (hdep ⟨9, .data⟩ (by simp) rfl)
                  dsimp only at e9
                  subst e9
                  have HT := Lib.hid hT
                  clear hT hdep
                  refine .inl ?_
                  unfold Oper.wp
                  go_simp
                  exact (HI.out _ _ _).2 ⟨_, _, _, _, _, _, _, _, _, _, _, _, _, _, _, rfl, (HT.out).put 10 10 (.pointer (some ⟨c, n * 2, none⟩)) (by decide) rfl⟩
                · obtain rfl := Option.some.inj ho
                  have e10 := hT.vals _ (List.Mem.tail _ (List.Mem.tail _ (List.Mem.tail _ (List.Mem.tail _ (List.Mem.tail _ (List.Mem.tail _ (List.Mem.tail _ (List.Mem.tail _ (List.Mem.tail _ (List.Mem.tail _ (List.Mem.head _))))))))))) (hdep ⟨10, .data⟩ (by simp) rfl)
                  dsimp only at e10
                  subst e10
                  have HT := Lib.hid hT
                  clear hT hdep
                  refine .inl ?_
                  unfold Oper.wp
                  go_simp
                  exact (HI.out _ _ _).2 ⟨_, _, _, _, _, _, _, _, _, _, _, _, _, _, _, rfl, (HT.out).put 11 11 (.pointer (some ⟨c, n * 2 + 1, none⟩)) (by decide) rfl⟩
                · obtain rfl := Option.some.inj ho
                  have e11 := hT.vals _ (List.Mem.tail _ (List.Mem.tail _ (List.Mem.tail _ (List.Mem.tail _ (List.Mem.tail _ (List.Mem.tail _ (List.Mem.tail _ (List.Mem.tail _ (List.Mem.tail _ (List.Mem.tail _ (List.Mem.tail _ (List.Mem.head _)))))))))))) (hdep ⟨11, .data⟩ (by simp) rfl)
                  dsimp only at e11
                  subst e11
                  have hS := hT.any (fun w' => Blk w' c 60 32 (wb v (n + 1))) (fun _ h => h.C) (fun _ h => h.C) (fun _ h => h.C)
                  have l0 := hS.cell (n * 2 + 1) hbd.out.2.2.2
                  rw [hY.out] at l0
                  have HT := Lib.hid hT
                  clear hT hdep
                  clear hS
                  refine .inl ?_
                  unfold Oper.wp
                  go_simp
                  exact (HI.out _ _ _).2 ⟨_, _, _, _, _, _, _, _, _, _, _, _, _, _, _, rfl, (HT.out).put 12 12 (.int .i64 (Y)) (by decide) rfl⟩
                · obtain rfl := Option.some.inj ho
                  have e1 := hT.vals _ (List.Mem.tail _ (List.Mem.head _)) (hdep ⟨1, .data⟩ (by simp) rfl)
                  dsimp only at e1
                  subst e1
                  have HT := Lib.hid hT
                  clear hT hdep
                  refine .inl ?_
                  unfold Oper.wp
                  go_simp
                  exact (HI.out _ _ _).2 ⟨_, _, _, _, _, _, _, _, _, _, _, _, _, _, _, rfl, (HT.out).put 13 13 (.pointer (some ⟨a, N2, none⟩)) (by decide) rfl⟩
                · obtain rfl := Option.some.inj ho
                  have e13 := hT.vals _ (List.Mem.tail _ (List.Mem.tail _ (List.Mem.tail _ (List.Mem.tail _ (List.Mem.tail _ (List.Mem.tail _ (List.Mem.tail _ (List.Mem.tail _ (List.Mem.tail _ (List.Mem.tail _ (List.Mem.tail _ (List.Mem.tail _ (List.Mem.tail _ (List.Mem.head _)))))))))))))) (hdep ⟨13, .data⟩ (by simp) rfl)
                  dsimp only at e13
                  subst e13
                  have e8 := hT.vals _ (List.Mem.tail _ (List.Mem.tail _ (List.Mem.tail _ (List.Mem.tail _ (List.Mem.tail _ (List.Mem.tail _ (List.Mem.tail _ (List.Mem.tail _ (List.Mem.head _))))))))) (hdep ⟨8, .data⟩ (by simp) rfl)
                  dsimp only at e8
                  subst e8
                  have hpre : ∀ e ∈ [], dn e = true := by
                    intro e he
                    cases he
                  have hS := hT.at0 14 hd (by decide)
                  have l0 := hS.A.cell N2 hbd.out.1
                  have f0 := hS.A.free N2
                  have hnew := Lib.hid (hS.setA (f' := fun m => if m = N2 then X else bo f v n m) ⟨hS.A.set N2 X, Keep.setCell _ _ _ _ (by simp)⟩)
                  have HT := Lib.hid hT
                  clear hT hdep hS
                  refine .inl ?_
                  unfold Oper.wp
                  go_simp
                  exact (HI.out _ _ _).2 ⟨_, _, _, _, _, _, _, _, _, _, _, _, _, _, _, rfl, HT.out.fst hd (by decide) hpre rfl hnew.out⟩
                · obtain rfl := Option.some.inj ho
                  have e4 := hT.vals _ (List.Mem.tail _ (List.Mem.tail _ (List.Mem.tail _ (List.Mem.tail _ (List.Mem.head _))))) (hdep ⟨4, .data⟩ (by simp) rfl)
                  dsimp only at e4
                  subst e4
                  have HT := Lib.hid hT
                  clear hT hdep
                  refine .inl ?_
                  unfold Oper.wp
                  go_simp
                  exact (HI.out _ _ _).2 ⟨_, _, _, _, _, _, _, _, _, _, _, _, _, _, _, rfl, (HT.out).put 15 14 (.pointer (some ⟨a, M, none⟩)) (by decide) rfl⟩
                · obtain rfl := Option.some.inj ho
                  have e15 := hT.vals _ (List.Mem.tail _ (List.Mem.tail _ (List.Mem.tail _ (List.Mem.tail _ (List.Mem.tail _ (List.Mem.tail _ (List.Mem.tail _ (List.Mem.tail _ (List.Mem.tail _ (List.Mem.tail _ (List.Mem.tail _ (List.Mem.tail _ (List.Mem.tail _ (List.Mem.tail _ (List.Mem.head _))))))))))))))) (hdep ⟨15, .data⟩ (by simp) rfl)
                  dsimp only at e15
                  subst e15
                  have e12 := hT.vals _ (List.Mem.tail _ (List.Mem.tail _ (List.Mem.tail _ (List.Mem.tail _ (List.Mem.tail _ (List.Mem.tail _ (List.Mem.tail _ (List.Mem.tail _ (List.Mem.tail _ (List.Mem.tail _ (List.Mem.tail _ (List.Mem.tail _ (List.Mem.head _))))))))))))) (hdep ⟨12, .data⟩ (by simp) rfl)
                  dsimp only at e12
                  subst e12
                  have hi1 := hdep ⟨14, .chain⟩ (by simp) rfl
                  have hS := hT.at1 hd hi1
                  have l0 := hS.A.cell M hbd.out.2.1
                  have f0 := hS.A.free M
                  have hnew := Lib.hid (hS.setA (f' := fun m => if m = M then Y else if m = N2 then X else bo f v n m) ⟨hS.A.set M Y, Keep.setCell _ _ _ _ (by simp)⟩)
                  have HT := Lib.hid hT
                  clear hT hdep hS
                  refine .inl ?_
                  unfold Oper.wp
                  go_simp
                  exact (HI.out _ _ _).2 ⟨_, _, _, _, _, _, _, _, _, _, _, _, _, _, _, rfl, HT.out.snd (by decide) hi1 rfl hnew.out⟩
                · cases ho
              · intro dn ac wc hd hIn
                obtain ⟨s47, s48, s49, s50, s51, s52, s53, s54, s55, s56, s57, s58, s59, s60, s61, rfl, hT⟩ := (HI.out _ _ _).1 hIn
                have hF := Lib.hid (hT.done (hd 16 (by decide)))
                clear HI hIn hT hd
                have hN := Lib.hid (hfin.out _ hF.out)
                clear hF hfin
                go_wp2
                go_roundw
                case rel => exact ⟨n + 1, by omega, by go_num, hN⟩
                case measure => simp [intOf]; omega
            · rw [show (n : Int) = 16 by omega]
              obtain rfl : n = 16 := by omega
              have hfg : ∀ i, i < 32 → bo f v 16 i = waveb f i := fun i hi => by
                rw [hvw.out]; unfold bo; split <;> rw [if_pos (by omega)]
              have hA1 := hA.out.congr hfg (fun _ _ => rfl)
              obtain ⟨G, hG⟩ : ∃ G, G = waveb f := ⟨_, rfl⟩
              have HG := Lib.hid hG
              rw [← hG] at hA1
              have hcur := hA1.A
              have hres := hA1.R
              have HD := Lib.hid (hA1.done G)
              have hs5 := Lib.hid (HS4.out G)
              have hold : Hid ((iv 32 fun _ => 0).size = (iv 32 G).size) := by show _ = _; rw [iv_size, iv_size]
              unfold Blk at hcur hres
              clear hA hA1 hG hfg
              go_wp2_with (first | (refine wpList_load_row rfl 47 _ rfl a rfl 47 (iv 32 G) (0, 0) _ hcur Try.underlying47 rfl hs5.out ?_) | (refine wpList_store_row rfl 47 _ _ rfl r (iv 32 G) rfl rfl 47 _ hres hs5.out hold.out (iv_one 32 G) ?_))
              exact bodyPost_ret (v := .agg (iv 32 G)) (results_cell_row Try.results20 _ _ r 47 _ (0, 0) _ rfl HD.out.1 Try.underlying47 rfl hs5.out) rfl ⟨by rw [HG.out], HD.out.2⟩
end Go.Proofs.Ythoemgiadadfcaa
