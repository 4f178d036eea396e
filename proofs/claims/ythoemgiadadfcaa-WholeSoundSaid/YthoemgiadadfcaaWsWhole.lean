/- The walk of belfrytop.WholeSound. -/
import Derived.Test.YthoemgiadadfcaaWsLaw
import Derived.Test.YthoemgiadadfcaaWsGoes
import Derived.Deep.DeepCutAuto
set_option linter.unusedVariables false
set_option linter.unusedSimpArgs false
namespace Go.Proofs.Ythoemgiadadfcaa
open Go.RowKit Go.Sort Ws
/-- The slice (a, n) reads as the ints zs. -/
def Ints (w : World) (a : Option Addr) (n : Nat) (zs : List Int) : Prop :=
  zs.length = n ∧ (0 < n → ∃ b o, a = some ⟨b, o, none⟩ ∧ b < w.heap.size ∧ ∀ i, i < n → w.cell? ⟨b, o + i, none⟩ = some (.int .i64 (zs.getD i 0)))
theorem Ints.below {w w' : World} {a : Option Addr} {n : Nat} {zs : List Int} (h : Ints w a n zs) (hb : Below w.heap.size w w') : Ints w' a n zs :=
  ⟨h.1, fun hn => by
    obtain ⟨b, o, e, hl, hc⟩ := h.2 hn
    exact ⟨b, o, e, Nat.lt_of_lt_of_le hl hb.size, fun i hi => (hb.cell (p := ⟨b, o + i, none⟩) hl).trans (hc i hi)⟩⟩
/-- A list that grows, all of it new. -/
structure Xw (w0 w : World) (v : Value) (l : List Int) : Prop where
  own : Own w 3 .i64 v l
  below : Below w0.heap.size w0 w
  news : ∀ j ∈ foot v, w0.heap.size ≤ j
theorem Xw.later {w0 w w' : World} {v : Value} {l : List Int} (h : Xw w0 w v l) (hb : Below w.heap.size w w') : Xw w0 w' v l := ⟨h.own.below hb, h.below.trans (hb.mono h.below.size), h.news⟩
theorem Xw.push {w0 w w1 : World} {v : Value} {l ys : List Int} {g cap : Nat} (h : Xw w0 w v l) (ho : Own w1 3 .i64 (.slice (some ⟨g, 0, none⟩) ys.length cap) ys) (hk : Keep w w1 (foot v)) (hf : g ∈ foot v ∨ w.heap.size ≤ g) :
    Xw w0 w1 (.slice (some ⟨g, 0, none⟩) ys.length cap) ys := by
  refine ⟨ho, hk.below h.below h.news, ?_⟩
  intro j hj
  rw [foot_slice, List.mem_singleton] at hj
  subst hj
  rcases hf with h1 | h1
  · exact h.news _ h1
  · have := h.below.size; omega
namespace Ws
def xK (zs : List Int) (k : Nat) : List Int := (List.range k).map fun i => (zs.getD i 0).tmod 65536
end Ws
theorem xK_length (zs : List Int) (k : Nat) : (xK zs k).length = k := by simp [xK]
theorem xK_succ (zs : List Int) (k : Nat) : xK zs (k + 1) = xK zs k ++ [(zs.getD k 0).tmod 65536] := by simp [xK, List.range_succ]
theorem tmod_le (x : Int) : -65535 ≤ x.tmod 65536 ∧ x.tmod 65536 ≤ 65535 := by
  rw [Int.tmod_eq_emod]
  split <;> omega
theorem xK_le (zs : List Int) (k : Nat) : ∀ x ∈ xK zs k, -65535 ≤ x ∧ x ≤ 65535 := by
  intro x hx
  unfold xK at hx
  obtain ⟨i, _, rfl⟩ := List.mem_map.1 hx
  exact tmod_le _
/-- What follows a block, once. -/
theorem wp_cut_block {P : Program} {s : Code} {id : Nat} {K : Act → World → Prop} {Q' : Exit → Act → World → Prop} {a : Act} {w : World} (R : Act → World → Prop)
    (rest : ∀ a' w', R a' w' → K a' w') (first : s.wp P (Exit.inBlock id (Exit.then R Q')) a w) : s.wp P (Exit.inBlock id (Exit.then K Q')) a w := by
  refine wp_mono first ?_
  intro e a' w' hq
  cases e with
  | normal => exact rest _ _ hq
  | exit id2 =>
    by_cases h : id2 = id
    · simp only [Exit.inBlock, h, if_true] at hq ⊢
      exact rest _ _ hq
    · simp only [Exit.inBlock, h, if_false] at hq ⊢
      exact hq
  | goto l => exact hq
  | ret => exact hq
  | panic ch => exact hq
  | outgrown => exact hq
set_option maxRecDepth 100000 in
set_option maxHeartbeats 6400000 in
theorem wholeSound_walk (a0 : Option Addr) (n cap : Nat) (zs : List Int) (w : World) (hz : Ints w a0 n zs) :
    Calls Try.prog 3 #[.slice a0 n cap] w fun e w' => e = .returned (.bool true) ∧ Below w.heap.size w w' := by
  have hg := goes_is w
  have hX0 : Hid (∀ k, Xw w (w.drewN k) (.slice none 0 0) (xK zs 0)) := fun k => ⟨Own.nil _ _ _, ⟨rfl, rfl, rfl, Nat.le_refl _, fun _ _ => rfl⟩, by simp [foot_nil]⟩
  have HZ := Lib.hid hz
  clear hz
  go_enter Try.func3, Try.ntmps3
  go_wp2_with (go_at_call 4; (with_reducible refine hg.mono ?_); rintro e w1 ⟨rfl, k1, rfl⟩; clear hg)
  have hX := Lib.hid (hX0.out k1)
  clear hX0
  generalize w.drewN k1 = W1 at *
  obtain ⟨R, hR⟩ : ∃ R : Act → World → Prop, ∀ ac wc, R ac wc ↔ ∃ v i v17 v18 v19 v20 v21 v22 v23 v24 v25 v26 v27 v28 v29 v30 v31 v32 v33 v34, ac = ⟨#[.slice a0 n cap, undef, .bool false, v, i, undef, undef, undef, undef, undef, undef, undef, undef, undef, undef, .bool true, .bool false, v17, v18, v19, v20, v21, v22, v23, v24, v25, v26, v27, v28, v29, v30, v31, v32, v33, v34, undef, undef, undef, undef, undef, undef, undef, undef, undef, undef, undef, undef, undef, undef, undef, undef, undef, undef, undef, undef, undef, undef, undef, undef, undef, undef, undef, undef, undef, undef, undef, undef, undef, undef, undef, undef, undef, undef, undef, undef, undef, undef, undef, undef, undef, undef, undef, undef, undef, undef, undef, undef, undef, undef, undef, undef, undef, undef, undef, undef, undef, undef, undef, undef, undef, undef, undef, undef, undef, undef, undef, undef, undef, undef, undef, undef, undef, undef, undef, undef, undef, undef, undef, undef, undef, undef], []⟩ ∧ ∃ k : Nat, k ≤ 400 ∧ Hid (Xw w wc v (xK zs k)) := ⟨_, fun _ _ => Iff.rfl⟩
  have HR := Lib.hid hR
  clear hR
  refine wp_cut_block R ?rest ?first
  case first =>
    go_loopw [3, 4] (fun v i wr => ∃ k : Nat, k ≤ 400 ∧ k ≤ n ∧ i = .int .i64 k ∧ Hid (Xw w wr v (xK zs k))) (fun v i _ => 400 - (intOf i).toNat)
    case atStart => exact ⟨0, by omega, by omega, rfl, hX⟩
    case round =>
      clear hX
      obtain ⟨k, hk, hkn, rfl, hA⟩ := hrel
      obtain ⟨wo, rfl⟩ : ∃ wo : World, wo = wr := ⟨_, rfl⟩
      by_cases hlt : k < n
      · by_cases h4 : k < 400
        · obtain ⟨b, o, rfl, hbl, hc⟩ := (HZ.out.below hA.out.below).2 (by omega)
          have l0 := hc k hlt
          have hst := xK_succ zs k
          have hln := xK_length zs k
          have ht := tmod_le (zs.getD k 0)
          generalize zs.getD k 0 = Z at *
          obtain ⟨L, hL⟩ : ∃ L, L = xK zs k := ⟨_, rfl⟩
          rw [← hL] at hA hst hln
          have hkI : (k : Int) < (n : Int) := by omega
          have hkI4 : (k : Int) < 400 := by omega
          obtain ⟨T, hT⟩ : ∃ T, T = Int.tmod Z 65536 := ⟨_, rfl⟩
          rw [← hT] at hst ht
          have hT2 := hT.symm
          have hO := Lib.hid (hA.out.own)
          have hlen : Hid ((L.length + 1) * 8 ≤ 140737488355328) := by show _ ≤ _; omega
          have hfn : Hid (∀ g2 cap2 W6, Own W6 3 .i64 (.slice (some ⟨g2, 0, none⟩) (L ++ [T]).length cap2) (L ++ [T]) → Keep wo W6 (foot u3) → (g2 ∈ foot u3 ∨ wo.heap.size ≤ g2) → Xw w W6 (.slice (some ⟨g2, 0, none⟩) (L ++ [T]).length cap2) (xK zs (k + 1))) := fun g2 cap2 W6 ho hk hf => by
            rw [hst]
            exact hA.out.push ho hk hf
          clear hL hA hst hc hT
          go_wp2_with (at_builtin; refine append_one rfl _ _ 22 3 .i64 8 rfl Try.underlying22 info3 (by decide) u3 L T rfl rfl hO.out hlen.out ?_; intro g3 c3 w3 ho3 hk3 hf3; have hN := Lib.hid (hfn.out g3 c3 w3 ho3 hk3 hf3); clear ho3 hk3 hf3)
          go_roundw
          case rel => exact ⟨k + 1, by omega, by omega, by go_num, by rw [List.length_append, List.length_singleton, hln] at hN; exact hN⟩
          case measure => simp [intOf]; omega
        · have hkI : (k : Int) < (n : Int) := by omega
          have hkI4 : ¬ (k : Int) < 400 := by omega
          go_wp2
          exact (HR.out _ _).2 ⟨_, _, _, _, _, _, _, _, _, _, _, _, _, _, _, _, _, _, _, _, rfl, k, hk, hA⟩
      · have hkI : ¬ (k : Int) < (n : Int) := by omega
        go_wp2
        exact (HR.out _ _).2 ⟨_, _, _, _, _, _, _, _, _, _, _, _, _, _, _, _, _, _, _, _, rfl, k, hk, hA⟩
  case rest =>
    clear hX
    intro a' w' hr
    obtain ⟨v, i, v17, v18, v19, v20, v21, v22, v23, v24, v25, v26, v27, v28, v29, v30, v31, v32, v33, v34, rfl, k, hk, hA⟩ := (HR.out _ _).1 hr
    clear hr HR
    obtain ⟨sa, sc, hsv⟩ := hA.out.own.shape
    rw [xK_length] at hsv
    subst hsv
    have hkk : (k : Int) % 2 = 0 ∨ (k : Int) % 2 = 1 := by omega
    go_upto_if 38 with (fail)
    go_cut [3] from 35 (fun v wx => ∃ (xs : List Int) (K : Nat), K ≤ 200 ∧ Hid (xs.length = 2 * K ∧ (∀ x ∈ xs, -65535 ≤ x ∧ x ≤ 65535) ∧ Xw w wx v xs))
    case first =>
      have hlen : Hid (((xK zs k).length + 1) * 8 ≤ 140737488355328) := by show _ ≤ _; rw [xK_length]; omega
      have HX := Lib.hid hA.out
      have HO := Lib.hid hA.out.own
      have HE := Lib.hid (xK_length zs k)
      have HL := Lib.hid (xK_le zs k)
      clear hA
      generalize xK zs k = L at *
      by_cases hp : (k : Int) % 2 = 1
      · go_wp2_with (at_builtin; (refine append_one rfl _ _ 22 3 .i64 8 rfl Try.underlying22 info3 (by decide) (.slice sa k sc) L 0 rfl rfl HO.out hlen.out ?_; intro g3 c3 w3 ho3 hk3 hf3; have hN := Lib.hid (HX.out.push ho3 hk3 hf3); clear ho3 hk3 hf3))
        go_meet
        case rel =>
          refine ⟨L ++ [0], (k + 1) / 2, by omega, ?_, ?_, by have := hN.out; rw [List.length_append, List.length_singleton] at this; exact this⟩
          · have := HE.out; simp; omega
          · intro x hx
            rcases List.mem_append.1 hx with h | h
            · exact HL.out x h
            · simp at h; omega
      · go_wp2
        go_meet
        case rel => exact ⟨L, k / 2, by omega, by show _ ∧ _ ∧ _; exact ⟨by have := HE.out; omega, HL.out, HX.out⟩⟩
    case rest =>
      obtain ⟨xs, K, hK, hX2⟩ := hcut
      clear hA hkk hk
      obtain ⟨hl, hb, hA⟩ := hX2.out
      have hsp := split_is u3 xs K wc hA.own hl (by omega) (fun x hx => by have := hb x hx; omega)
      have bd : ∀ g : Nat → Int, (∀ k, k < K → -131072 ≤ g k ∧ g k ≤ 131072) → Bd 131072 (fun c => ((List.range K).map g).getD c 0) := fun g hg c => by
        show _ ≤ ((List.range K).map g).getD c 0 ∧ ((List.range K).map g).getD c 0 ≤ _
        rw [map_getD]
        split
        · exact hg c (by assumption)
        · omega
      have gx : ∀ i, -65535 ≤ xs.getD i 0 ∧ xs.getD i 0 ≤ 65535 := fun i => by
        rw [List.getD_eq_getElem?_getD]
        cases h : xs[i]? with
        | none => simp
        | some y => exact hb y (List.mem_of_getElem? h)
      have bm : ∀ k, -131072 ≤ mF xs k ∧ mF xs k ≤ 131072 := fun k => by
        have := gx (2 * k); have := gx (2 * k + 1); unfold mF; omega
      have bs : ∀ k, -131072 ≤ sF xs k ∧ sF xs k ≤ 131072 := fun k => by
        have := gx (2 * k); have := gx (2 * k + 1); unfold sF; omega
      have HJ := Lib.hid (joined xs K (cnt K * 32) hl (by unfold cnt; omega))
      have HBM := Lib.hid (bd _ fun k _ => bm k)
      have HBS := Lib.hid (bd _ fun k _ => bs k)
      have hlm : ((List.range K).map (mF xs)).length = K := by simp
      have hls : ((List.range K).map (sF xs)).length = K := by simp
      have hxm : Hid (∀ x ∈ (List.range K).map (mF xs), -1048576 ≤ x ∧ x ≤ 1048576) := fun x hx => by
        obtain ⟨i, _, rfl⟩ := List.mem_map.1 hx
        have := bm i; omega
      have hxs : Hid (∀ x ∈ (List.range K).map (sF xs), -1048576 ≤ x ∧ x ≤ 1048576) := fun x hx => by
        obtain ⟨i, _, rfl⟩ := List.mem_map.1 hx
        have := bs i; omega
      have HC : Hid (1 ≤ cnt K ∧ cnt K ≤ 8) := by show _ ∧ _; unfold cnt; omega
      have HL := Lib.hid hl
      clear hl hb hA bd gx bm bs
      generalize (List.range K).map (mF xs) = ms at *
      generalize (List.range K).map (sF xs) = ss at *
      have HLM := Lib.hid hlm
      have HLS := Lib.hid hls
      clear hlm hls
      go_upto_region 11 with (go_at_call 5; (with_reducible refine hsp.mono ?_); rintro e w5 ⟨vm, vs, rfl, om, os, hb5⟩; have HM := Lib.hid om; have HS := Lib.hid os; have HB5 := Lib.hid hb5; clear hsp om os hb5)
      have hf1 := frames_is vm ms w5 (Rd.own HM.out) (by have := HLM.out; omega) hxm.out (seams_le ms HBM.out)
      have hS1 := Lib.hid (samples_frames ms HBM.out)
      have hS2 := Lib.hid (samples_frames ss HBS.out)
      have hL1 := Lib.hid (frames_le ms HBM.out)
      have hL2 := Lib.hid (frames_le ss HBS.out)
      rw [HLM.out] at hf1 hS1
      rw [HLS.out] at hS2
      go_upto_region 12 with (go_at_call 6; (with_reducible refine hf1.mono ?_); rintro e w6 ⟨g1, rfl, hF1⟩; have HF1 := Lib.hid hF1; clear hf1 hF1)
      have hf2 := frames_is vs ss w6 (Rd.own (HS.out.below HF1.out.below)) (by have := HLS.out; omega) hxs.out (seams_le ss HBS.out)
      rw [HLS.out] at hf2
      go_upto_region 13 with (go_at_call 6; (with_reducible refine hf2.mono ?_); rintro e w7 ⟨g2, rfl, hF2⟩; have HF2 := Lib.hid hF2; clear hf2 hF2)
      have HB7 : Hid (Below w.heap.size w w7) := ((hX2.out.2.2.below.trans (HB5.out.mono hX2.out.2.2.below.size)).trans (HF1.out.below.mono (by have := hX2.out.2.2.below.size; have := HB5.out.size; omega))).trans (HF2.out.below.mono (by have := hX2.out.2.2.below.size; have := HB5.out.size; have := HF1.out.below.size; omega))
      have HX7 : Hid (Own w7 3 .i64 u3 xs) := ((hX2.out.2.2.own.below HB5.out).below HF1.out.below).below HF2.out.below
      have P1 := Lib.hid (HF1.out.at_.below HF2.out.below)
      have P2 := Lib.hid HF2.out.at_
      have BJ : Hid ((∀ x ∈ (List.range (cnt K * 32)).map fun c => ms.getD c 0, -16777216 ≤ x ∧ x ≤ 16777216) ∧ ∀ x ∈ (List.range (cnt K * 32)).map fun c => ss.getD c 0, -16777216 ≤ x ∧ x ≤ 16777216) := by
        refine ⟨fun x hx => ?_, fun x hx => ?_⟩
        · obtain ⟨c, _, rfl⟩ := List.mem_map.1 hx
          have : -131072 ≤ ms.getD c 0 ∧ ms.getD c 0 ≤ 131072 := HBM.out c
          omega
        · obtain ⟨c, _, rfl⟩ := List.mem_map.1 hx
          have : -131072 ≤ ss.getD c 0 ∧ ss.getD c 0 ≤ 131072 := HBS.out c
          omega
      have hLJ := Lib.hid (jn_length ((List.range (cnt K * 32)).map fun c => ms.getD c 0) ((List.range (cnt K * 32)).map fun c => ss.getD c 0) (cnt K * 32))
      have HKN : Hid (K ≤ cnt K * 32) := by show _ ≤ _; unfold cnt; omega
      generalize cnt K = N at *
      have HN := Lib.hid HC.out
      have hs1 := samples_is g1 N N (framesF ms) w7 P1.out HN.out.1 (by have := HN.out.2; omega) (fun i _ => hL1.out i)
      rw [hS1.out] at hs1
      clear HC HF1 HF2 HM HS hxm hxs HBM HBS HB5 hS1 hL1 hX2
      obtain ⟨MM, hMM⟩ : ∃ MM, MM = (List.range (N * 32)).map fun c => ms.getD c 0 := ⟨_, rfl⟩
      obtain ⟨SS, hSS⟩ : ∃ SS, SS = (List.range (N * 32)).map fun c => ss.getD c 0 := ⟨_, rfl⟩
      have hlMM : MM.length = N * 32 := by rw [hMM]; simp
      have hlSS : SS.length = N * 32 := by rw [hSS]; simp
      rw [← hMM] at hs1 BJ HJ hLJ
      rw [← hSS] at BJ HJ hLJ
      have HLL : Hid (MM.length = N * 32 ∧ SS.length = N * 32) := ⟨hlMM, hlSS⟩
      have hs2 : Hid (∀ w8, Below w7.heap.size w7 w8 → Calls Try.prog 8 #[.slice (some ⟨g2, 0, none⟩) N N] w8 fun e w' => ∃ v', e = .returned v' ∧ Own w' 3 .i64 v' SS ∧ Below w8.heap.size w8 w') := fun w8 hb => by
        have := samples_is g2 N N (framesF ss) w8 (P2.out.below hb) HN.out.1 (by have := HN.out.2; omega) (fun i _ => hL2.out i)
        rw [hS2.out, ← hSS] at this
        exact this
      clear hMM hSS hlMM hlSS P1 P2 hS2 hL2
      go_upto_region 14 with (first | (go_at_call 8; (with_reducible refine hs1.mono ?_); rintro e w8 ⟨va, rfl, oa, hb8⟩; have q2 := hs2.out w8 hb8; have OA := Lib.hid oa; have HB8 := Lib.hid hb8; clear hs1 oa hb8) | (go_at_call 8; (with_reducible refine q2.mono ?_); rintro e w9 ⟨vb, rfl, ob, hb9⟩; have q3 := join_is va vb MM SS (N * 32) w9 (OA.out.below hb9) ob HLL.out.1 HLL.out.2 (by have := HN.out.2; omega) BJ.out.1 BJ.out.2; have HB9 := Lib.hid hb9; clear q2 ob hb9) | (go_at_call 7; (with_reducible refine q3.mono ?_); rintro e w10 ⟨vj, rfl, oj, hb10⟩; have OJ := Lib.hid oj; have HB10 := Lib.hid hb10; clear q3 oj hb10))
      have HB : Hid (Below w.heap.size w w10) := ((HB7.out.trans (HB8.out.mono HB7.out.size)).trans (HB9.out.mono (by have := HB7.out.size; have := HB8.out.size; omega))).trans (HB10.out.mono (by have := HB7.out.size; have := HB8.out.size; have := HB9.out.size; omega))
      have HX := Lib.hid (((HX7.out.below HB8.out).below HB9.out).below HB10.out)
      have hlj := hLJ.out
      obtain ⟨gj, cj, hvj⟩ := OJ.out.form (by have := HN.out.1; omega)
      obtain ⟨ax, cx, hvx⟩ := HX.out.shape
      have HYc : Hid (∀ m k, k < 2 * (N * 32) → (w10.drewN m).cell? ⟨gj, k, none⟩ = some (.int .i64 (xs.getD k 0))) := fun m k hk => by
        have ho := OJ.out
        rw [hvj] at ho
        have := ho.at_ k (by omega)
        rw [HJ.out k hk] at this
        exact this
      have HXc : Hid (∀ m k, k < xs.length → ∃ gx, ax = some ⟨gx, 0, none⟩ ∧ (w10.drewN m).cell? ⟨gx, k, none⟩ = some (.int .i64 (xs.getD k 0))) := fun m k hk => by
        have ho := HX.out
        obtain ⟨gx, cx2, he⟩ := ho.form (by omega)
        rw [hvx] at he
        injection he with e1 e2 e3
        subst e1
        rw [hvx] at ho
        exact ⟨gx, rfl, ho.at_ k hk⟩
      have HZ2 : Hid (∀ k, xs.length ≤ k → xs.getD k 0 = 0) := fun k hk => by rw [List.getD_eq_getElem?_getD, List.getElem?_eq_none hk]; rfl
      rw [hlj] at hvj
      have hle : xs.length ≤ 2 * (N * 32) := by have := HL.out; have := HKN.out; omega
      have hMb : 2 * (N * 32) ≤ 1000 := by have := HN.out.2; omega
      subst hvj
      subst hvx
      clear OJ HX HX7 HJ HLL hLJ hlj OA HB7 HB8 HB9 HB10 BJ HKN HN HL hs2 HLM HLS hK HZ
      generalize xs.length = Lx at *
      generalize 2 * (N * 32) = Ly at *
      have hnl : ¬ ((Ly : Int) < (Lx : Int)) := by omega
      go_upto_region 16 with (fail)
      go_wp2
      go_loopw [14] (fun q wr => ∃ k m : Nat, k ≤ Ly ∧ q = .int .i64 k ∧ w10.drewN m = wr) (fun q _ => Ly - (intOf q).toNat)
      case atStart => exact ⟨0, 0, by omega, rfl, rfl⟩
      case round =>
        obtain ⟨k, m, hk, rfl, hwr⟩ := hrel
        by_cases hlt : k < Ly
        · have hkI : (k : Int) < (Ly : Int) := by omega
          have lY := HYc.out m k hlt
          rw [hwr] at lY
          by_cases hx : k < Lx
          · have hxI : (k : Int) < (Lx : Int) := by omega
            have hxG : ¬ ((Lx : Int) ≤ (k : Int)) := by omega
            obtain ⟨gx, rfl, lX⟩ := HXc.out m k hx
            rw [hwr] at lX
            generalize xs.getD k 0 = Z at *
            have HW := Lib.hid hwr
            clear hwr
            go_upto_region 19 with (fail)
            go_big_quiet (fail)
            go_wp2
            go_roundw
            case rel => exact ⟨k + 1, m + nq, by omega, by go_num, by rw [← HW.out, drew2]⟩
            case measure => simp [intOf]; omega
          · have hxI : ¬ ((k : Int) < (Lx : Int)) := by omega
            have hxG : (Lx : Int) ≤ (k : Int) := by omega
            rw [HZ2.out k (by omega)] at lY
            have HW := Lib.hid hwr
            clear hwr
            go_upto_region 19 with (fail)
            go_big_quiet (fail)
            go_wp2
            go_roundw
            case rel => exact ⟨k + 1, m + nq, by omega, by go_num, by rw [← HW.out, drew2]⟩
            case measure => simp [intOf]; omega
        · have hkI : ¬ ((k : Int) < (Ly : Int)) := by omega
          have HW := Lib.hid hwr
          clear hwr
          go_wp2
          go_ret
          exact ⟨rfl, HB.out.trans ⟨by rw [← HW.out]; rfl, by rw [← HW.out]; rfl, by rw [← HW.out]; rfl, by rw [← HW.out]; exact Nat.le_refl _, fun j _ => by rw [← HW.out]; rfl⟩⟩
end Go.Proofs.Ythoemgiadadfcaa
