/- Numbers as frames: the walk of lap.Frames. -/
import Derived.Test.YthoemgiadadfcaaWsPf
import Derived.Test.YthoemgiadadfcaaWsWaves
set_option linter.unusedVariables false
set_option linter.unusedSimpArgs false
namespace Go.Proofs.Ythoemgiadadfcaa
open Go.RowKit Go.Sort Ws
theorem greatL_is (m : Int) (w : World) : Calls Try.prog 14 #[.int .i64 m] w fun e w' => e = .returned (.func (.func 26) #[] #[.pointer (some ⟨w.heap.size, 0, none⟩)]) ∧ w' = w.alloc (.cells #[.int .i64 m] 3) := by
  have hmf : ∀ (fn : Fn) (first cap : Array Value) (w : World), (Instr.makeFunc fn first cap).run Try.prog w = .ok (.func fn first cap) w := fun _ _ _ _ => rfl
  go_enter Try.func14, Try.ntmps14
  go_wp2
  go_ret
  exact ⟨rfl, rfl⟩
theorem Rd.form {w : World} {v : Value} {xs : List Int} (h : Rd w v xs) : ∃ a cap, v = .slice a xs.length cap ∧ ∀ i, i < xs.length → ∃ g, a = some ⟨g, 0, none⟩ ∧ g < w.heap.size ∧ w.cell? ⟨g, i, none⟩ = some (.int .i64 (xs.getD i 0)) := by
  rcases h with ⟨rfl, rfl⟩ | ⟨g, cap, rfl, hc, hg, hcell⟩
  · exact ⟨none, 0, rfl, fun i hi => by simp at hi⟩
  · exact ⟨_, _, rfl, fun i hi => ⟨g, rfl, hg, hcell i hi⟩⟩
theorem info47 : (Try.prog.info? 47).map (fun i => (i.zero, i.size, i.bytes)) = some (some (.agg (iv 32 fun _ => 0)), 32, 256) := by kernel_rfl
theorem made_iv (n : Nat) : madeCells (iv 32 fun _ => 0) n = iv n fun _ => 0 := by
  apply Array.ext_getElem?
  intro i
  by_cases hi : i < n
  · rw [iv_get n _ i hi]
    have h32 : i % 32 < 32 := Nat.mod_lt _ (by decide)
    simp [madeCells, hi, iv_size]
    have := iv_get 32 (fun _ => (0 : Int)) (i % 32) h32
    rw [getElem!_def, this]
  · have h1 : (madeCells (iv 32 fun _ => 0) n)[i]? = none := by simp [madeCells]; omega
    have h2 : (iv n fun _ => (0 : Int))[i]? = none := by simp [iv, ivl]; omega
    rw [h1, h2]
theorem make_frames (n : Nat) (hn : n ≤ 4096) (w : World) : (Instr.makeSlice 27 (.int .i64 (n : Nat)) (.int .i64 (n : Nat))).run Try.prog w = .ok (.slice (some ⟨w.heap.size, 0, none⟩) n n) (w.alloc (.cells (iv (n * 32) fun _ => 0) 47)) := by
  obtain ⟨i, hi, hzz⟩ := Option.map_eq_some_iff.1 info47
  simp only [Prod.mk.injEq] at hzz
  obtain ⟨hz, hs, hb⟩ := hzz
  have := run_make (P := Try.prog) w 27 47 i _ Try.underlying27 hi hz .i64 .i64 (n : Int) (n : Int) (by omega) (by omega) (by rw [hb]; omega) (by omega)
  rw [hs, show ((n : Int)).toNat = n from Int.toNat_natCast n] at this
  rw [this]
  have e : (Value.agg (iv 32 fun _ => (0 : Int))).cells = iv 32 fun _ => 0 := rfl
  rw [e, made_iv]
namespace Ws
def ini (xs : List Int) (k : Nat) : F := fun c => if c < k then xs.getD c 0 else 0
end Ws
set_option maxRecDepth 100000 in
set_option maxHeartbeats 6400000 in
theorem frames_is (v : Value) (xs : List Int) (w : World) (hr : Rd w v xs) (hl : xs.length ≤ 1000) (hx : ∀ x ∈ xs, -1048576 ≤ x ∧ x ≤ 1048576) (hsk : Bd 16777216 (seamK (cnt xs.length - 1) fun c => xs.getD c 0)) :
    Calls Try.prog 6 #[v] w fun e w' => ∃ g, e = .returned (.tuple #[.slice (some ⟨g, 0, none⟩) (cnt xs.length) (cnt xs.length), .int .i64 0]) ∧ Fw w w' g (cnt xs.length * 32) (framesF xs) := by
  have hgr := greatL_is 1048576 w
  have hct := (contains_26 w.heap.size v xs (w.alloc (.cells #[.int .i64 1048576] 3)) (hr.below ((Below.refl _ _).alloc (Nat.le_refl _) _)) (by omega) (fun x hxm => great1_is 1048576 x w.heap.size (by omega) (hx x hxm).1 (hx x hxm).2 _ (cell_of_row _ _ 0 _ 3 (0, 0) (heap_alloc_new w _)))).mono (fun e w' h => (⟨h.1, h.2.symm⟩ : _ ∧ w.alloc (.cells #[.int .i64 1048576] 3) = w'))
  obtain ⟨a, cap, hv, hcells⟩ := hr.form
  rw [hv] at hct
  rw [hv]
  obtain ⟨n, hn⟩ : ∃ n, n = xs.length := ⟨_, rfl⟩
  obtain ⟨N, hN⟩ : ∃ N, N = cnt xs.length := ⟨_, rfl⟩
  have hNe : N = n / 32 + min (n % 32) 1 + 1 := by rw [hN, hn]; rfl
  have hcn := (fun w => (count_is n (by omega) w).mono (fun e w' h => (⟨h.1, h.2.symm⟩ : _ ∧ w = w')))
  rw [show cnt n = N by rw [hN, hn]] at hcn
  have hff : framesF xs = wavK N (seamK (N - 1) fun c => xs.getD c 0) := by rw [hN]; rfl
  have HFF := Lib.hid hff
  rw [← hN] at hsk
  rw [← hn] at hcells hct hl
  rw [← hN, ← hn]
  have HSK := Lib.hid hsk
  have HCE := Lib.hid hcells
  have hHN := Lib.hid hNe
  have HNX := Lib.hid hn
  have hNl : N ≤ 40 := by omega
  have hnN : n ≤ N * 32 := by omega
  have hN1 : 1 ≤ N := by omega
  have hdN : decide ((4096 : Int) < (N : Int)) = false := decide_eq_false (by omega)
  have hmk := make_frames N (by omega)
  have hBW : Hid (Below w.heap.size w (w.alloc (.cells #[.int .i64 1048576] 3))) := (Below.refl _ _).alloc (Nat.le_refl _) _
  clear hr hx hv hff hsk hcells hNe hN hn
  go_enter Try.func6, Try.ntmps6
  go_upto_region 5 with (first | (go_at_call 14; (with_reducible refine hgr.mono ?_); rintro e w8 ⟨rfl, h8⟩; subst h8; clear hgr) | (go_at_call 13; (with_reducible refine hct.mono ?_); rintro e w8 ⟨rfl, h8⟩; subst h8; clear hct) | (go_at_call 15; (with_reducible refine (hcn _).mono ?_); rintro e w8 ⟨rfl, h8⟩; subst h8))
  generalize w.alloc (.cells #[.int .i64 1048576] 3) = W at *
  have hF0 : Hid (Fw w (W.alloc (.cells (iv (N * 32) fun _ => 0) 47)) W.heap.size (N * 32) (ini xs 0)) :=
    ⟨((Blk.new W 47 (N * 32) fun _ => 0).pf).congr fun i _ => by unfold ini; rw [if_neg (by omega)], hBW.out.alloc hBW.out.size _, hBW.out.size⟩
  go_upto_region 6 with (go_at_call 15; (with_reducible refine (hcn _).mono ?_); rintro e w8 ⟨rfl, h8⟩; subst h8)
  generalize W.alloc (.cells (iv (N * 32) fun _ => 0) 47) = W1 at *
  generalize W.heap.size = g at *
  clear hBW hmk hcn
  go_wp2
  go_loopw [24] (fun q wr => ∃ k : Nat, k ≤ n ∧ q = .int .i64 k ∧ Hid (Fw w wr g (N * 32) (ini xs k))) (fun q _ => n - (intOf q).toNat)
  case atStart => exact ⟨0, by omega, rfl, hF0⟩
  case round =>
    clear hF0
    obtain ⟨k, hk, rfl, hA⟩ := hrel
    obtain ⟨wo, rfl⟩ : ∃ wo : World, wo = wr := ⟨_, rfl⟩
    by_cases hlt : k < n
    · obtain ⟨gv, rfl, hgl, hcx⟩ := HCE.out k hlt
      have l0 : wo.cell? ⟨gv, k, none⟩ = some (.int .i64 (xs.getD k 0)) := (hA.out.below.cell (p := ⟨gv, k, none⟩) hgl).trans hcx
      obtain ⟨Q, hQ⟩ : ∃ Q, Q = k / 32 := ⟨_, rfl⟩
      obtain ⟨R, hR⟩ : ∃ R, R = k % 32 := ⟨_, rfl⟩
      have e1 : (k : Int) / 32 = (Q : Int) := by omega
      have e2 : (k : Int) % 32 = (R : Int) := by omega
      have e3 : Int.tdiv (k : Int) 32 = (Q : Int) := by rw [Int.tdiv_eq_ediv_of_nonneg (by omega)]; exact e1
      have e4 : Int.tmod (k : Int) 32 = (R : Int) := by rw [Int.tmod_eq_emod_of_nonneg (by omega)]; exact e2
      have hQN : (Q : Int) < (N : Int) := by omega
      have hR32 : (R : Int) < 32 := by omega
      have hkn : (k : Int) < (n : Int) := by omega
      have hQR : Q * 32 + R = k := by omega
      have l1 := hA.out.at_.cell (Q * 32 + R) (by omega)
      have f1 := hA.out.at_.free (Q * 32 + R)
      have hN : Hid (Fw w (wo.setCell ⟨g, Q * 32 + R, none⟩ (.int .i64 (xs.getD k 0))) g (N * 32) (ini xs (k + 1))) := (hA.out.set (Q * 32 + R) (xs.getD k 0)).congr fun i hi => by
        unfold ini
        rw [hQR]
        by_cases h1 : i = k
        · rw [if_pos h1, if_pos (by omega), h1]
        · rw [if_neg h1]
          by_cases h2 : i < k
          · rw [if_pos h2, if_pos (by omega)]
          · rw [if_neg h2, if_neg (by omega)]
      generalize xs.getD k 0 = x at *
      generalize ini xs k (Q * 32 + R) = y at *
      clear hA hcx hQ hR hQR
      go_wp2
      go_roundw
      case rel => exact ⟨k + 1, by omega, by go_num, hN⟩
      case measure => simp [intOf]; omega
    · obtain rfl : n = k := by omega
      obtain ⟨P, hP⟩ : ∃ P, N = P + 1 := ⟨N - 1, by omega⟩
      have hNP : (N : Int) - 1 = (P : Int) := by omega
      have hF1 : Hid (Fw w wo g (N * 32) (seamK 0 fun c => xs.getD c 0)) := hA.out.congr fun i hi => by
        show _ = xs.getD i 0
        unfold ini
        by_cases h : i < n
        · rw [if_pos h]
        · rw [if_neg h, List.getD_eq_getElem?_getD, List.getElem?_eq_none (by have := HNX.out; omega)]; rfl
      have HP := Lib.hid hP
      have hPN : (P : Int) < (N : Int) := by omega
      clear hA hP
      go_wp2
      go_loopw [41] (fun q wr => ∃ k : Nat, k ≤ P ∧ q = .int .i64 k ∧ Hid (Fw w wr g (N * 32) (seamK k fun c => xs.getD c 0))) (fun q _ => P - (intOf q).toNat)
      case atStart => exact ⟨0, by omega, rfl, hF1⟩
      case round =>
        clear hF1
        obtain ⟨k, hk, rfl, hA⟩ := hrel
        obtain ⟨wo, rfl⟩ : ∃ wo : World, wo = wr := ⟨_, rfl⟩
        by_cases hlt : k < P
        · have hst : Hid (seamK (k + 1) (fun c => xs.getD c 0) = seamAt k (seamK k fun c => xs.getD c 0)) := rfl
          obtain ⟨h, hh⟩ : ∃ h, h = seamK k fun c => xs.getD c 0 := ⟨_, rfl⟩
          rw [← hh] at hA hst
          obtain ⟨k1, hk1⟩ : ∃ k1, k1 = k + 1 := ⟨_, rfl⟩
          have e1 : (k : Int) + 1 = (k1 : Int) := by omega
          have ew1 : IntKind.i64.wrap (k1 : Int) = (k1 : Int) := by rw [IntKind.wrap_i64]; omega
          have hkN : (k : Int) < (N : Int) := by omega
          have hk1N : (k1 : Int) < (N : Int) := by omega
          have hkP : (k : Int) < (P : Int) := by omega
          have hbd : Hid (k * 32 + 32 ≤ N * 32 ∧ k1 * 32 + 32 ≤ N * 32) := by show _ ∧ _; omega
          have hq := fun w => seam_is (fra h k) (fra h k1) w
          obtain ⟨SA, hSA⟩ : ∃ SA, SA = sA (fra h k) (fra h k1) 16 := ⟨_, rfl⟩
          obtain ⟨SB, hSB⟩ : ∃ SB, SB = sB (fra h k) (fra h k1) 16 := ⟨_, rfl⟩
          have hfin : Hid (∀ W6, Fw w W6 g (N * 32) (fun c => if k1 * 32 ≤ c ∧ c < k1 * 32 + 32 then SB (c - k1 * 32) else if k * 32 ≤ c ∧ c < k * 32 + 32 then SA (c - k * 32) else h c) → Fw w W6 g (N * 32) (seamK (k + 1) fun c => xs.getD c 0)) := fun W6 h6 => h6.congr fun i hi => by
            rw [hst.out]
            unfold seamAt
            rw [hSA, hSB, hk1]
          rw [← hSA, ← hSB] at hq
          obtain ⟨FA, hFA⟩ : ∃ FA, FA = fra h k := ⟨_, rfl⟩
          obtain ⟨FB, hFB⟩ : ∃ FB, FB = fra h k1 := ⟨_, rfl⟩
          rw [← hFA, ← hFB] at hq
          have rA : Hid (∀ W, Fw w W g (N * 32) h → W.rangeAt g (k * 32) (ivl 32 FA)) := fun W hW => by
            have := hW.at_.range (k * 32) 32 hbd.out.1
            rw [show ivl 32 FA = ivl 32 fun i => h (k * 32 + i) by rw [hFA]; exact ivl_congr fun i hi => by unfold fra; rw [if_pos hi]]
            exact this
          have rB : Hid (∀ W, Fw w W g (N * 32) h → W.rangeAt g (k1 * 32) (ivl 32 FB)) := fun W hW => by
            have := hW.at_.range (k1 * 32) 32 hbd.out.2
            rw [show ivl 32 FB = ivl 32 fun i => h (k1 * 32 + i) by rw [hFB]; exact ivl_congr fun i hi => by unfold fra; rw [if_pos hi]]
            exact this
          have hz7 : Hid (∀ f : F, (Try.prog.info? 47).map (·.size) = some (ivl 32 f).length) := fun f => by rw [ivl_length]; kernel_rfl
          have HQ := Lib.hid hq
          clear hq hh hSA hSB hFA hFB hk1 hst
          go_upto_region 14 with (fail)
          obtain ⟨I, hI⟩ : ∃ I : (Nat → Bool) → Act → World → Prop, ∀ dn ac wc, I dn ac wc ↔ ∃ s44 s45 s46 s47 s48 s49 s50 s51 s52 s53 s54 s55 s56 s57 s58 s59 s60 s61 s62 s63, ac = ⟨#[Value.slice a n cap, undef, Value.slice none 0 0, Value.int IntKind.i64 0, Value.slice (some { block := g, off := 0 }) N N, u5, u6, Value.int IntKind.i64 ↑k, undef, Value.bool false, Value.slice a n cap, Value.func (Fn.func 26) #[] #[Value.pointer (some { block := w.heap.size, off := 0 })], Value.bool false, Value.bool false, Value.slice a n cap, Value.int IntKind.i64 ↑n, Value.int IntKind.i64 ↑N, Value.bool false, Value.slice a n cap, Value.int IntKind.i64 ↑n, Value.int IntKind.i64 ↑N, Value.slice (some { block := g, off := 0 }) N N, Value.slice a n cap, Value.int IntKind.i64 ↑n, Value.int IntKind.i64 ↑n, Value.bool false, u26, u27, u28, u29, u30, u31, u32, u33, u34, u35, u36, u37, Value.slice (some { block := g, off := 0 }) N N, Value.int IntKind.i64 ↑N, Value.int IntKind.i64 ↑P, Value.int IntKind.i64 ↑k, Value.bool true, Value.int IntKind.i64 ↑k, s44, s45, s46, s47, s48, s49, s50, s51, s52, s53, s54, s55, s56, s57, s58, s59, s60, s61, s62, s63, u64, undef, undef, undef, undef, undef, undef, undef, undef, undef, undef, undef, undef, undef, undef, undef], []⟩ ∧
            St2 wc dn [(0, .slice (some ⟨g, 0, none⟩) N N, s45), (1, .int .i64 (k : Nat), s46), (2, .slice (some ⟨g, 0, none⟩) N N, s47), (3, .int .i64 (k : Nat), s48), (4, .int .i64 (k1 : Nat), s49), (5, .slice (some ⟨g, 0, none⟩) N N, s50), (6, .int .i64 (k : Nat), s51), (7, .pointer (some ⟨g, k * 32, none⟩), s52), (8, .agg (iv 32 FA), s53), (9, .slice (some ⟨g, 0, none⟩) N N, s54), (10, .int .i64 (k : Nat), s55), (11, .int .i64 (k1 : Nat), s56), (12, .pointer (some ⟨g, k1 * 32, none⟩), s57), (13, .agg (iv 32 FB), s58), (14, .tuple #[.agg (iv 32 SA), .agg (iv 32 SB)], s59), (15, .tuple #[.agg (iv 32 SA), .agg (iv 32 SB)], s44), (16, .agg (iv 32 SA), s60), (17, .agg (iv 32 SB), s61), (18, .pointer (some ⟨g, k * 32, none⟩), s62), (20, .pointer (some ⟨g, k1 * 32, none⟩), s63)] (fun w' => Fw w w' g (N * 32) h) (fun w' => Fw w w' g (N * 32) fun c => if k * 32 ≤ c ∧ c < k * 32 + 32 then SA (c - k * 32) else h c) (fun w' => Fw w w' g (N * 32) fun c => if k1 * 32 ≤ c ∧ c < k1 * 32 + 32 then SB (c - k1 * 32) else if k * 32 ≤ c ∧ c < k * 32 + 32 then SA (c - k * 32) else h c) 19 21 [8, 13] := ⟨_, fun _ _ _ => Iff.rfl⟩
          have HI := Lib.hid hI
          clear hI
          refine wp_region_inv (by kernel_rfl) (by kernel_rfl) I ?_ ?_ ?_
          · exact (HI.out _ _ _).2 ⟨_, _, _, _, _, _, _, _, _, _, _, _, _, _, _, _, _, _, _, _, rfl, St2.start _ _ _ _ _ _ _ _ hA.out (fun _ _ h hb => h.later hb)⟩
          · intro i o dn ac wc ho hd hdep hIn
            obtain ⟨s44, s45, s46, s47, s48, s49, s50, s51, s52, s53, s54, s55, s56, s57, s58, s59, s60, s61, s62, s63, rfl, hT⟩ := (HI.out _ _ _).1 hIn
            clear hIn
            rcases i with _ | _ | _ | _ | _ | _ | _ | _ | _ | _ | _ | _ | _ | _ | _ | _ | _ | _ | _ | _ | _ | _ | i
            · obtain rfl := Option.some.inj ho
              have HT := Lib.hid hT
              clear hT hdep
              refine .inl ?_
              unfold Oper.wp
              go_simp
              exact (HI.out _ _ _).2 ⟨_, _, _, _, _, _, _, _, _, _, _, _, _, _, _, _, _, _, _, _, rfl, (HT.out).put 0 0 (.slice (some ⟨g, 0, none⟩) N N) (by decide) rfl⟩
            · obtain rfl := Option.some.inj ho
              have HT := Lib.hid hT
              clear hT hdep
              refine .inl ?_
              unfold Oper.wp
              go_simp
              exact (HI.out _ _ _).2 ⟨_, _, _, _, _, _, _, _, _, _, _, _, _, _, _, _, _, _, _, _, rfl, (HT.out).put 1 1 (.int .i64 (k : Nat)) (by decide) rfl⟩
            · obtain rfl := Option.some.inj ho
              have HT := Lib.hid hT
              clear hT hdep
              refine .inl ?_
              unfold Oper.wp
              go_simp
              exact (HI.out _ _ _).2 ⟨_, _, _, _, _, _, _, _, _, _, _, _, _, _, _, _, _, _, _, _, rfl, (HT.out).put 2 2 (.slice (some ⟨g, 0, none⟩) N N) (by decide) rfl⟩
            · obtain rfl := Option.some.inj ho
              have HT := Lib.hid hT
              clear hT hdep
              refine .inl ?_
              unfold Oper.wp
              go_simp
              exact (HI.out _ _ _).2 ⟨_, _, _, _, _, _, _, _, _, _, _, _, _, _, _, _, _, _, _, _, rfl, (HT.out).put 3 3 (.int .i64 (k : Nat)) (by decide) rfl⟩
            · obtain rfl := Option.some.inj ho
              have e3 := hT.vals _ (List.Mem.tail _ (List.Mem.tail _ (List.Mem.tail _ (List.Mem.head _)))) (hdep ⟨3, .data⟩ (by simp) rfl)
              dsimp only at e3
              subst e3
              have HT := Lib.hid hT
              clear hT hdep
              refine .inl ?_
              unfold Oper.wp
              go_simp
              exact (HI.out _ _ _).2 ⟨_, _, _, _, _, _, _, _, _, _, _, _, _, _, _, _, _, _, _, _, rfl, (HT.out).put 4 4 (.int .i64 (k1 : Nat)) (by decide) rfl⟩
            · obtain rfl := Option.some.inj ho
              have HT := Lib.hid hT
              clear hT hdep
              refine .inl ?_
              unfold Oper.wp
              go_simp
              exact (HI.out _ _ _).2 ⟨_, _, _, _, _, _, _, _, _, _, _, _, _, _, _, _, _, _, _, _, rfl, (HT.out).put 5 5 (.slice (some ⟨g, 0, none⟩) N N) (by decide) rfl⟩
            · obtain rfl := Option.some.inj ho
              have HT := Lib.hid hT
              clear hT hdep
              refine .inl ?_
              unfold Oper.wp
              go_simp
              exact (HI.out _ _ _).2 ⟨_, _, _, _, _, _, _, _, _, _, _, _, _, _, _, _, _, _, _, _, rfl, (HT.out).put 6 6 (.int .i64 (k : Nat)) (by decide) rfl⟩
            · obtain rfl := Option.some.inj ho
              have e5 := hT.vals _ (List.Mem.tail _ (List.Mem.tail _ (List.Mem.tail _ (List.Mem.tail _ (List.Mem.tail _ (List.Mem.head _)))))) (hdep ⟨5, .data⟩ (by simp) rfl)
              dsimp only at e5
              subst e5
              have e6 := hT.vals _ (List.Mem.tail _ (List.Mem.tail _ (List.Mem.tail _ (List.Mem.tail _ (List.Mem.tail _ (List.Mem.tail _ (List.Mem.head _))))))) (hdep ⟨6, .data⟩ (by simp) rfl)
              dsimp only at e6
              subst e6
              have HT := Lib.hid hT
              clear hT hdep
              refine .inl ?_
              unfold Oper.wp
              go_simp
              exact (HI.out _ _ _).2 ⟨_, _, _, _, _, _, _, _, _, _, _, _, _, _, _, _, _, _, _, _, rfl, (HT.out).put 7 7 (.pointer (some ⟨g, k * 32, none⟩)) (by decide) rfl⟩
            · obtain rfl := Option.some.inj ho
              have e7 := hT.vals _ (List.Mem.tail _ (List.Mem.tail _ (List.Mem.tail _ (List.Mem.tail _ (List.Mem.tail _ (List.Mem.tail _ (List.Mem.tail _ (List.Mem.head _)))))))) (hdep ⟨7, .data⟩ (by simp) rfl)
              dsimp only at e7
              subst e7
              have hS := hT.at0 8 hd (by decide)
              have hrg := rA.out _ hS
              have HT := Lib.hid hT
              clear hT hdep
              clear hS
              refine .inl (wp_load_mid 47 (.tmp 52) rfl g (k * 32) rfl (ivl 32 FA) _ hrg Try.underlying47 rfl (hz7.out FA) ?_)
              exact (HI.out _ _ _).2 ⟨_, _, _, _, _, _, _, _, _, _, _, _, _, _, _, _, _, _, _, _, rfl, (HT.out).put 8 8 (.agg (iv 32 FA)) (by decide) rfl⟩
            · obtain rfl := Option.some.inj ho
              have HT := Lib.hid hT
              clear hT hdep
              refine .inl ?_
              unfold Oper.wp
              go_simp
              exact (HI.out _ _ _).2 ⟨_, _, _, _, _, _, _, _, _, _, _, _, _, _, _, _, _, _, _, _, rfl, (HT.out).put 9 9 (.slice (some ⟨g, 0, none⟩) N N) (by decide) rfl⟩
            · obtain rfl := Option.some.inj ho
              have HT := Lib.hid hT
              clear hT hdep
              refine .inl ?_
              unfold Oper.wp
              go_simp
              exact (HI.out _ _ _).2 ⟨_, _, _, _, _, _, _, _, _, _, _, _, _, _, _, _, _, _, _, _, rfl, (HT.out).put 10 10 (.int .i64 (k : Nat)) (by decide) rfl⟩
            · obtain rfl := Option.some.inj ho
              have e10 := hT.vals _ (List.Mem.tail _ (List.Mem.tail _ (List.Mem.tail _ (List.Mem.tail _ (List.Mem.tail _ (List.Mem.tail _ (List.Mem.tail _ (List.Mem.tail _ (List.Mem.tail _ (List.Mem.tail _ (List.Mem.head _))))))))))) (hdep ⟨10, .data⟩ (by simp) rfl)
              dsimp only at e10
              subst e10
              have HT := Lib.hid hT
              clear hT hdep
              refine .inl ?_
              unfold Oper.wp
              go_simp
              exact (HI.out _ _ _).2 ⟨_, _, _, _, _, _, _, _, _, _, _, _, _, _, _, _, _, _, _, _, rfl, (HT.out).put 11 11 (.int .i64 (k1 : Nat)) (by decide) rfl⟩
            · obtain rfl := Option.some.inj ho
              have e9 := hT.vals _ (List.Mem.tail _ (List.Mem.tail _ (List.Mem.tail _ (List.Mem.tail _ (List.Mem.tail _ (List.Mem.tail _ (List.Mem.tail _ (List.Mem.tail _ (List.Mem.tail _ (List.Mem.head _)))))))))) (hdep ⟨9, .data⟩ (by simp) rfl)
              dsimp only at e9
              subst e9
              have e11 := hT.vals _ (List.Mem.tail _ (List.Mem.tail _ (List.Mem.tail _ (List.Mem.tail _ (List.Mem.tail _ (List.Mem.tail _ (List.Mem.tail _ (List.Mem.tail _ (List.Mem.tail _ (List.Mem.tail _ (List.Mem.tail _ (List.Mem.head _)))))))))))) (hdep ⟨11, .data⟩ (by simp) rfl)
              dsimp only at e11
              subst e11
              have HT := Lib.hid hT
              clear hT hdep
              refine .inl ?_
              unfold Oper.wp
              go_simp
              exact (HI.out _ _ _).2 ⟨_, _, _, _, _, _, _, _, _, _, _, _, _, _, _, _, _, _, _, _, rfl, (HT.out).put 12 12 (.pointer (some ⟨g, k1 * 32, none⟩)) (by decide) rfl⟩
            · obtain rfl := Option.some.inj ho
              have e12 := hT.vals _ (List.Mem.tail _ (List.Mem.tail _ (List.Mem.tail _ (List.Mem.tail _ (List.Mem.tail _ (List.Mem.tail _ (List.Mem.tail _ (List.Mem.tail _ (List.Mem.tail _ (List.Mem.tail _ (List.Mem.tail _ (List.Mem.tail _ (List.Mem.head _))))))))))))) (hdep ⟨12, .data⟩ (by simp) rfl)
              dsimp only at e12
              subst e12
              have hS := hT.at0 13 hd (by decide)
              have hrg := rB.out _ hS
              have HT := Lib.hid hT
              clear hT hdep
              clear hS
              refine .inl (wp_load_mid 47 (.tmp 57) rfl g (k1 * 32) rfl (ivl 32 FB) _ hrg Try.underlying47 rfl (hz7.out FB) ?_)
              exact (HI.out _ _ _).2 ⟨_, _, _, _, _, _, _, _, _, _, _, _, _, _, _, _, _, _, _, _, rfl, (HT.out).put 13 13 (.agg (iv 32 FB)) (by decide) rfl⟩
            · obtain rfl := Option.some.inj ho
              have e8 := hT.vals _ (List.Mem.tail _ (List.Mem.tail _ (List.Mem.tail _ (List.Mem.tail _ (List.Mem.tail _ (List.Mem.tail _ (List.Mem.tail _ (List.Mem.tail _ (List.Mem.head _))))))))) (hdep ⟨8, .data⟩ (by simp) rfl)
              dsimp only at e8
              subst e8
              have e13 := hT.vals _ (List.Mem.tail _ (List.Mem.tail _ (List.Mem.tail _ (List.Mem.tail _ (List.Mem.tail _ (List.Mem.tail _ (List.Mem.tail _ (List.Mem.tail _ (List.Mem.tail _ (List.Mem.tail _ (List.Mem.tail _ (List.Mem.tail _ (List.Mem.tail _ (List.Mem.head _)))))))))))))) (hdep ⟨13, .data⟩ (by simp) rfl)
              dsimp only at e13
              subst e13
              have HT := Lib.hid hT
              clear hT hdep
              refine .inl ?_
              unfold Oper.wp
              go_simp
              (with_reducible refine (HQ.out _).mono ?_); rintro e w1 ⟨rfl, hb1⟩
              exact (HI.out _ _ _).2 ⟨_, _, _, _, _, _, _, _, _, _, _, _, _, _, _, _, _, _, _, _, rfl, (HT.out.later (fun _ _ h hb => h.later hb) (fun _ _ h hb => h.later hb) (fun _ _ h hb => h.later hb) hb1).put 14 14 (.tuple #[.agg (iv 32 SA), .agg (iv 32 SB)]) (by decide) rfl⟩
            · obtain rfl := Option.some.inj ho
              have e14 := hT.vals _ (List.Mem.tail _ (List.Mem.tail _ (List.Mem.tail _ (List.Mem.tail _ (List.Mem.tail _ (List.Mem.tail _ (List.Mem.tail _ (List.Mem.tail _ (List.Mem.tail _ (List.Mem.tail _ (List.Mem.tail _ (List.Mem.tail _ (List.Mem.tail _ (List.Mem.tail _ (List.Mem.head _))))))))))))))) (hdep ⟨14, .data⟩ (by simp) rfl)
              dsimp only at e14
              subst e14
              have HT := Lib.hid hT
              clear hT hdep
              refine .inl ?_
              unfold Oper.wp
              go_simp
              exact (HI.out _ _ _).2 ⟨_, _, _, _, _, _, _, _, _, _, _, _, _, _, _, _, _, _, _, _, rfl, (HT.out).put 15 15 (.tuple #[.agg (iv 32 SA), .agg (iv 32 SB)]) (by decide) rfl⟩
            · obtain rfl := Option.some.inj ho
              have e15 := hT.vals _ (List.Mem.tail _ (List.Mem.tail _ (List.Mem.tail _ (List.Mem.tail _ (List.Mem.tail _ (List.Mem.tail _ (List.Mem.tail _ (List.Mem.tail _ (List.Mem.tail _ (List.Mem.tail _ (List.Mem.tail _ (List.Mem.tail _ (List.Mem.tail _ (List.Mem.tail _ (List.Mem.tail _ (List.Mem.head _)))))))))))))))) (hdep ⟨15, .data⟩ (by simp) rfl)
              dsimp only at e15
              subst e15
              have HT := Lib.hid hT
              clear hT hdep
              refine .inl ?_
              unfold Oper.wp
              go_simp
              exact (HI.out _ _ _).2 ⟨_, _, _, _, _, _, _, _, _, _, _, _, _, _, _, _, _, _, _, _, rfl, (HT.out).put 16 16 (.agg (iv 32 SA)) (by decide) rfl⟩
            · obtain rfl := Option.some.inj ho
              have e15 := hT.vals _ (List.Mem.tail _ (List.Mem.tail _ (List.Mem.tail _ (List.Mem.tail _ (List.Mem.tail _ (List.Mem.tail _ (List.Mem.tail _ (List.Mem.tail _ (List.Mem.tail _ (List.Mem.tail _ (List.Mem.tail _ (List.Mem.tail _ (List.Mem.tail _ (List.Mem.tail _ (List.Mem.tail _ (List.Mem.head _)))))))))))))))) (hdep ⟨15, .data⟩ (by simp) rfl)
              dsimp only at e15
              subst e15
              have HT := Lib.hid hT
              clear hT hdep
              refine .inl ?_
              unfold Oper.wp
              go_simp
              exact (HI.out _ _ _).2 ⟨_, _, _, _, _, _, _, _, _, _, _, _, _, _, _, _, _, _, _, _, rfl, (HT.out).put 17 17 (.agg (iv 32 SB)) (by decide) rfl⟩
            · obtain rfl := Option.some.inj ho
              have e0 := hT.vals _ (List.Mem.head _) (hdep ⟨0, .data⟩ (by simp) rfl)
              dsimp only at e0
              subst e0
              have e1 := hT.vals _ (List.Mem.tail _ (List.Mem.head _)) (hdep ⟨1, .data⟩ (by simp) rfl)
              dsimp only at e1
              subst e1
              have HT := Lib.hid hT
              clear hT hdep
              refine .inl ?_
              unfold Oper.wp
              go_simp
              exact (HI.out _ _ _).2 ⟨_, _, _, _, _, _, _, _, _, _, _, _, _, _, _, _, _, _, _, _, rfl, (HT.out).put 18 18 (.pointer (some ⟨g, k * 32, none⟩)) (by decide) rfl⟩
            · obtain rfl := Option.some.inj ho
              have e18 := hT.vals _ (List.Mem.tail _ (List.Mem.tail _ (List.Mem.tail _ (List.Mem.tail _ (List.Mem.tail _ (List.Mem.tail _ (List.Mem.tail _ (List.Mem.tail _ (List.Mem.tail _ (List.Mem.tail _ (List.Mem.tail _ (List.Mem.tail _ (List.Mem.tail _ (List.Mem.tail _ (List.Mem.tail _ (List.Mem.tail _ (List.Mem.tail _ (List.Mem.tail _ (List.Mem.head _))))))))))))))))))) (hdep ⟨18, .data⟩ (by simp) rfl)
              dsimp only at e18
              subst e18
              have e16 := hT.vals _ (List.Mem.tail _ (List.Mem.tail _ (List.Mem.tail _ (List.Mem.tail _ (List.Mem.tail _ (List.Mem.tail _ (List.Mem.tail _ (List.Mem.tail _ (List.Mem.tail _ (List.Mem.tail _ (List.Mem.tail _ (List.Mem.tail _ (List.Mem.tail _ (List.Mem.tail _ (List.Mem.tail _ (List.Mem.tail _ (List.Mem.head _))))))))))))))))) (hdep ⟨16, .data⟩ (by simp) rfl)
              dsimp only at e16
              subst e16
              have hpre : ∀ e ∈ [8, 13], dn e = true := by
                intro e he
                simp only [List.mem_cons, List.not_mem_nil, or_false] at he
                rcases he with rfl | rfl
                · exact hdep ⟨8, .phase⟩ (by simp) rfl
                · exact hdep ⟨13, .phase⟩ (by simp) rfl
              have hS := hT.at0 19 hd (by decide)
              have hth := hS.at_.there (k * 32) 32 hbd.out.1
              have hnew := Lib.hid (hS.put (k * 32) 32 SA)
              have HT := Lib.hid hT
              clear hT hdep hS
              refine .inl (wp_store_mid 47 (.tmp 62) (.tmp 60) rfl g (k * 32) (iv 32 SA) rfl rfl (by rw [iv_size]; exact hth) (size47 SA) (iv_one 32 SA) ?_)
              exact (HI.out _ _ _).2 ⟨_, _, _, _, _, _, _, _, _, _, _, _, _, _, _, _, _, _, _, _, rfl, HT.out.fst hd (by decide) hpre rfl hnew.out⟩
            · obtain rfl := Option.some.inj ho
              have e2 := hT.vals _ (List.Mem.tail _ (List.Mem.tail _ (List.Mem.head _))) (hdep ⟨2, .data⟩ (by simp) rfl)
              dsimp only at e2
              subst e2
              have e4 := hT.vals _ (List.Mem.tail _ (List.Mem.tail _ (List.Mem.tail _ (List.Mem.tail _ (List.Mem.head _))))) (hdep ⟨4, .data⟩ (by simp) rfl)
              dsimp only at e4
              subst e4
              have HT := Lib.hid hT
              clear hT hdep
              refine .inl ?_
              unfold Oper.wp
              go_simp
              exact (HI.out _ _ _).2 ⟨_, _, _, _, _, _, _, _, _, _, _, _, _, _, _, _, _, _, _, _, rfl, (HT.out).put 20 19 (.pointer (some ⟨g, k1 * 32, none⟩)) (by decide) rfl⟩
            · obtain rfl := Option.some.inj ho
              have e20 := hT.vals _ (List.Mem.tail _ (List.Mem.tail _ (List.Mem.tail _ (List.Mem.tail _ (List.Mem.tail _ (List.Mem.tail _ (List.Mem.tail _ (List.Mem.tail _ (List.Mem.tail _ (List.Mem.tail _ (List.Mem.tail _ (List.Mem.tail _ (List.Mem.tail _ (List.Mem.tail _ (List.Mem.tail _ (List.Mem.tail _ (List.Mem.tail _ (List.Mem.tail _ (List.Mem.tail _ (List.Mem.head _)))))))))))))))))))) (hdep ⟨20, .data⟩ (by simp) rfl)
              dsimp only at e20
              subst e20
              have e17 := hT.vals _ (List.Mem.tail _ (List.Mem.tail _ (List.Mem.tail _ (List.Mem.tail _ (List.Mem.tail _ (List.Mem.tail _ (List.Mem.tail _ (List.Mem.tail _ (List.Mem.tail _ (List.Mem.tail _ (List.Mem.tail _ (List.Mem.tail _ (List.Mem.tail _ (List.Mem.tail _ (List.Mem.tail _ (List.Mem.tail _ (List.Mem.tail _ (List.Mem.head _)))))))))))))))))) (hdep ⟨17, .data⟩ (by simp) rfl)
              dsimp only at e17
              subst e17
              have hi1 := hdep ⟨19, .chain⟩ (by simp) rfl
              have hS := hT.at1 hd hi1
              have hth := hS.at_.there (k1 * 32) 32 hbd.out.2
              have hnew := Lib.hid (hS.put (k1 * 32) 32 SB)
              have HT := Lib.hid hT
              clear hT hdep hS
              refine .inl (wp_store_mid 47 (.tmp 63) (.tmp 61) rfl g (k1 * 32) (iv 32 SB) rfl rfl (by rw [iv_size]; exact hth) (size47 SB) (iv_one 32 SB) ?_)
              exact (HI.out _ _ _).2 ⟨_, _, _, _, _, _, _, _, _, _, _, _, _, _, _, _, _, _, _, _, rfl, HT.out.snd (by decide) hi1 rfl hnew.out⟩
            · cases ho
          · intro dn ac wc hd hIn
            obtain ⟨s44, s45, s46, s47, s48, s49, s50, s51, s52, s53, s54, s55, s56, s57, s58, s59, s60, s61, s62, s63, rfl, hT⟩ := (HI.out _ _ _).1 hIn
            have hF := Lib.hid (hT.done (hd 21 (by decide)))
            clear HI hIn hT hd
            have hN := Lib.hid (hfin.out _ hF.out)
            clear hF hfin
            go_wp2
            go_roundw
            case rel => exact ⟨k + 1, by omega, by go_num, hN⟩
            case measure => simp [intOf]; omega
        · rw [show (k : Int) = (P : Int) by omega]
          obtain rfl : P = k := by omega
          have hb0 := HSK.out
          obtain ⟨h, hh⟩ : ∃ h, h = seamK P fun c => xs.getD c 0 := ⟨_, rfl⟩
          rw [show N - 1 = P by have := HP.out; omega, ← hh] at hb0
          have hb0 := Lib.hid hb0
          have hFE : Hid (framesF xs = wavK N h) := by show _ = _; rw [HFF.out, show N - 1 = P by have := HP.out; omega, ← hh]
          rw [← hh] at hA
          have hF2 : Hid (Fw w wo g (N * 32) (wavK 0 h)) := hA.out.congr fun i hi => by unfold wavK; rw [if_neg (by omega)]
          clear hA hh HFF HSK
          go_wp2
          go_loopw [67] (fun q wr => ∃ k : Nat, k ≤ N ∧ q = .int .i64 k ∧ Hid (Fw w wr g (N * 32) (wavK k h))) (fun q _ => N - (intOf q).toNat)
          case atStart => exact ⟨0, by omega, rfl, hF2⟩
          case round =>
            clear hF2
            obtain ⟨k, hk, rfl, hA⟩ := hrel
            obtain ⟨wo, rfl⟩ : ∃ wo : World, wo = wr := ⟨_, rfl⟩
            by_cases hlt : k < N
            · have hst := Lib.hid (wavK_step k h)
              have hfe : fra (wavK k h) k = fra h k := by
                funext j
                unfold fra wavK
                split
                · rw [if_neg (by omega)]
                · rfl
              have q1 := waves_is (fra h k) (fun c => by unfold fra; split; exact hb0.out _; omega)
              rw [← hfe] at q1
              obtain ⟨h3, hh3⟩ : ∃ h3, h3 = wavK k h := ⟨_, rfl⟩
              rw [← hh3] at q1 hA hst
              obtain ⟨SA, hSA⟩ : ∃ SA, SA = waves (fra h3 k) := ⟨_, rfl⟩
              obtain ⟨FA, hFA⟩ : ∃ FA, FA = fra h3 k := ⟨_, rfl⟩
              rw [← hSA] at q1 hst
              rw [← hFA] at q1
              have hkN : (k : Int) < (N : Int) := by omega
              have hrg : wo.rangeAt g (k * 32) (ivl 32 FA) := by
                have := hA.out.at_.range (k * 32) 32 (by omega)
                rw [show ivl 32 FA = ivl 32 fun i => h3 (k * 32 + i) by rw [hFA]; exact ivl_congr fun i hi => by unfold fra; rw [if_pos hi]]
                exact this
              have hz7 : Hid ((Try.prog.info? 47).map (·.size) = some (ivl 32 FA).length) := by show _ = _; rw [ivl_length]; kernel_rfl
              have hq1 : Calls Try.prog 17 #[.agg (ivl 32 FA).toArray] wo fun e w' => e = .returned (.agg (iv 32 SA)) ∧ Below wo.heap.size wo w' := q1 wo
              have hfin : Hid (∀ W8, Below wo.heap.size wo W8 → Fw w (W8.setCells g (k * 32) (iv 32 SA).toList) g (N * 32) (wavK (k + 1) h)) := fun W8 hb => ((hA.out.later hb).put (k * 32) 32 SA).congr fun i hi => hst.out i
              have hthr : Hid (∀ W8, Below wo.heap.size wo W8 → W8.there g (k * 32) (iv 32 SA).size) := fun W8 hb => by rw [iv_size]; exact (hA.out.later hb).at_.there (k * 32) 32 (by omega)
              have hs7 := Lib.hid (size47 SA)
              clear q1 hfe hh3 hSA hFA hst hA
              go_upto_region 20 with (first | (refine wpList_load_mid rfl 47 _ rfl g (k * 32) rfl (ivl 32 FA) _ hrg Try.underlying47 rfl hz7.out ?_) | (go_at_call 17; (with_reducible refine hq1.mono ?_); rintro e w9 ⟨rfl, hb9⟩; have hth := hthr.out w9 hb9; have hN := Lib.hid (hfin.out w9 hb9); clear hb9 hq1) | (refine wpList_store_mid rfl 47 _ _ rfl g (k * 32) (iv 32 SA) rfl rfl hth hs7.out (iv_one 32 SA) ?_))
              generalize w9.setCells g (k * 32) (iv 32 SA).toList = W9 at *
              clear hth hthr hfin hrg
              go_wp2
              go_roundw
              case rel => exact ⟨k + 1, by omega, by go_num, hN⟩
              case measure => simp [intOf]; omega
            · obtain rfl : N = k := by omega
              have hfin := Lib.hid hA
              clear hA
              go_wp2
              go_ret2
              exact ⟨g, rfl, by rw [hFE.out]; exact hfin.out.out⟩
end Go.Proofs.Ythoemgiadadfcaa
