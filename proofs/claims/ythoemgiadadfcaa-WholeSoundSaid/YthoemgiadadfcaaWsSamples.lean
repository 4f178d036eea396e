/- Frames back to numbers: the walk of lap.Samples. -/
import Derived.Test.YthoemgiadadfcaaWsClone
set_option linter.unusedVariables false
set_option linter.unusedSimpArgs false
namespace Go.Proofs.Ythoemgiadadfcaa
open Go.RowKit Go.Sort Ws
theorem info3s : (Try.prog.info? 3).map (fun i => (i.zero, i.size, i.bytes)) = some (some (.int .i64 0), 1, 8) := by kernel_rfl
/-- append(v, ys...) of an array's numbers. -/
theorem append_blk {ops : Array Oper} {rest : List Oper} {o : Oper} {a : Act} {Q : Exit → Act → World → Prop} {W : World} (hgd : o.guard = none) (s x : Operand) (t : TypeId)
    (ho : o.op = .call { callee := .builtin .append, args := #[s, x], argTypes := #[t, t] }) (ht : Try.prog.underlying t = some (.slice 3))
    (v : Value) (xs : List Int) (p n c : Nat) (F : Nat → Int) (hs : a.eval s = v) (hx : a.eval x = .slice (some ⟨p, 0, none⟩) n c) (HO : Own W 3 .i64 v xs)
    (hB : ∀ i, i < n → W.cell? ⟨p, i, none⟩ = some (.int .i64 (F i))) (hl : (xs.length + n) * 8 ≤ 140737488355328) (hn : 0 < n)
    (h : ∀ g cap w1, Own w1 3 .i64 (.slice (some ⟨g, 0, none⟩) (xs ++ (List.range n).map F).length cap) (xs ++ (List.range n).map F) → Keep W w1 (foot v) → (g ∈ foot v ∨ W.heap.size ≤ g) →
      wpList Try.prog ops Q rest (a.put o.dst (.slice (some ⟨g, 0, none⟩) (xs ++ (List.range n).map F).length cap)) w1) : wpList Try.prog ops Q (o :: rest) a W := by
  obtain ⟨i0, hi, hzz⟩ := Option.map_eq_some_iff.1 info3s
  simp only [Prod.mk.injEq] at hzz
  obtain ⟨hz0, hz1, hz2⟩ := hzz
  refine wpList_append_own_at W hgd s x t ho 0 3 i0 _ 1 8 ht hi hz0 hz1 hz2 rfl (by omega) v xs.length (xs.map (Value.int .i64)) hs HO ⟨p, 0, none⟩ n c (ivl n F) hx (by rw [ivl_length]; omega) (fun j u hj => ?_) (fun u hu => ?_) (by simp only [maxLen]; omega) hl (Nat.zero_le _) ?_
  · have hjl : j < n := by
      have := (List.getElem?_eq_some_iff.1 hj).1
      rwa [ivl_length] at this
    rw [ivl_get _ _ j hjl] at hj
    obtain rfl := Option.some.inj hj
    rw [Addr.add_mid, Nat.zero_add]
    exact hB j hjl
  · obtain ⟨j, hj, rfl⟩ := List.mem_map.1 hu
    rfl
  · intro v1 w1 hown hg _ hat
    have hown' : Own w1 3 .i64 v1 (xs ++ (List.range n).map F) := by
      unfold Own
      have e : List.map (Value.int .i64) (xs ++ (List.range n).map F) = xs.map (Value.int .i64) ++ ivl n F := by rw [List.map_append, List.map_map]; rfl
      rw [e, List.length_append, List.length_map, List.length_range]
      exact hown
    obtain ⟨g, cap, rfl⟩ := hown'.form (by simp; omega)
    refine h g cap w1 hown' (Keep.of_gb hg) ?_
    rcases hat with hat | hat
    · left; unfold foot; rw [← hat]; simp [Value.ownBlock]
    · right
      simp [Value.ownBlock] at hat
      omega
/-- The frames, and the numbers that grow. -/
structure So (w0 w : World) (c n : Nat) (f : F) (v : Value) (xs : List Int) : Prop where
  fw : Fw w0 w c n f
  own : Own w 3 .i64 v xs
  news : ∀ j ∈ foot v, w0.heap.size ≤ j ∧ j ≠ c
theorem So.later {w0 w w' : World} {c n : Nat} {f : F} {v : Value} {xs : List Int} (h : So w0 w c n f v xs) (hb : Below w.heap.size w w') : So w0 w' c n f v xs := ⟨h.fw.later hb, h.own.below hb, h.news⟩
theorem So.push {w0 w w1 : World} {c n g cap : Nat} {f : F} {v : Value} {xs ys : List Int} (h : So w0 w c n f v xs)
    (ho : Own w1 3 .i64 (.slice (some ⟨g, 0, none⟩) ys.length cap) ys) (hk : Keep w w1 (foot v)) (hf : g ∈ foot v ∨ w.heap.size ≤ g) : So w0 w1 c n f (.slice (some ⟨g, 0, none⟩) ys.length cap) ys := by
  refine ⟨⟨h.fw.at_.keep hk fun hj => (h.news _ hj).2 rfl, hk.below h.fw.below fun j hj => (h.news j hj).1, h.fw.new⟩, ho, ?_⟩
  intro j hj
  rw [foot_slice, List.mem_singleton] at hj
  subst hj
  rcases hf with h1 | h1
  · exact h.news _ h1
  · have := h.fw.below.size; have := h.fw.at_.lt; exact ⟨by omega, by omega⟩
theorem great_drew (m : Int) (w : World) : Calls Try.prog 14 #[.int .i64 m] w.drew fun e w' => e = .returned (.func (.func 26) #[] #[.pointer (some ⟨w.heap.size, 0, none⟩)]) ∧ Below w.heap.size w w' ∧ w'.cell? ⟨w.heap.size, 0, none⟩ = some (.int .i64 m) := by
  refine (greatL_is m w.drew).mono ?_
  rintro e w' ⟨rfl, rfl⟩
  have hb : Below w.drew.heap.size w.drew (w.drew.alloc (.cells #[.int .i64 m] 3)) := (Below.refl _ _).alloc (Nat.le_refl _) _
  exact ⟨rfl, ⟨hb.os, hb.tape, hb.output, hb.size, hb.block⟩, cell_of_row _ _ 0 _ 3 (0, 0) (heap_alloc_new w.drew _)⟩
set_option maxRecDepth 100000 in
set_option maxHeartbeats 6400000 in
theorem samples_is (g N cp : Nat) (f : F) (w : World) (h : Pf w g 47 (N * 32) f) (hN1 : 1 ≤ N) (hN2 : N ≤ 40) (hb : ∀ i, i < N * 32 → -16777216 ≤ f i ∧ f i ≤ 16777216) :
    Calls Try.prog 8 #[.slice (some ⟨g, 0, none⟩) N cp] w fun e w' => ∃ v', e = .returned v' ∧ Own w' 3 .i64 v' ((List.range (N * 32)).map (samplesF N f)) ∧ Below w.heap.size w w' := by
  have hcl := clone_is g N cp f w h hN1 (by omega)
  have HBF := Lib.hid hb
  have hz := zero47
  have hz7 : Hid (∀ f : F, (Try.prog.info? 47).map (·.size) = some (ivl 32 f).length) := fun f => by rw [ivl_length]; kernel_rfl
  have hs7 := Lib.hid fun f => size47 f
  clear h hb
  go_enter Try.func8, Try.ntmps8
  go_upto_region 2 with (go_at_call 19; (with_reducible refine hcl.mono ?_); rintro e w1 ⟨c, cap, rfl, hcap, hF⟩; have hF0 : Hid (Fw w w1 c (N * 32) (wabK 0 f)) := hF.congr fun i hi => by { unfold wabK; rw [if_neg (by omega)] }; clear hF hcl)
  go_wp2
  go_loopw [14] (fun q wr => ∃ k : Nat, k ≤ N ∧ q = .int .i64 k ∧ Hid (Fw w wr c (N * 32) (wabK k f))) (fun q _ => N - (intOf q).toNat)
  case atStart => exact ⟨0, by omega, rfl, hF0⟩
  case round =>
    clear hF0
    obtain ⟨k, hk, rfl, hA⟩ := hrel
    obtain ⟨wo, rfl⟩ : ∃ wo : World, wo = wr := ⟨_, rfl⟩
    by_cases hlt : k < N
    · have hst := Lib.hid (wabK_step k f)
      have hfe : fra (wabK k f) k = fra f k := by
        funext j
        unfold fra wabK
        split
        · rw [if_neg (by omega)]
        · rfl
      have hbk : Bd 16777216 (fra f k) := fun c => by
        unfold fra
        by_cases hc : c < 32
        · rw [if_pos hc]; exact HBF.out _ (by omega)
        · rw [if_neg hc]; omega
      have q1 := waveb_is (fra f k) hbk
      rw [← hfe] at q1 hbk
      obtain ⟨h3, hh3⟩ : ∃ h3, h3 = wabK k f := ⟨_, rfl⟩
      rw [← hh3] at q1 hA hst hbk
      obtain ⟨SA, hSA⟩ : ∃ SA, SA = waveb (fra h3 k) := ⟨_, rfl⟩
      obtain ⟨FA, hFA⟩ : ∃ FA, FA = fra h3 k := ⟨_, rfl⟩
      rw [← hSA] at q1 hst
      rw [← hFA] at q1 hbk
      have hkN : (k : Int) < (N : Int) := by omega
      have hrg : wo.rangeAt c (k * 32) (ivl 32 FA) := by
        have := hA.out.at_.range (k * 32) 32 (by omega)
        rw [show ivl 32 FA = ivl 32 fun i => h3 (k * 32 + i) by rw [hFA]; exact ivl_congr fun i hi => by unfold fra; rw [if_pos hi]]
        exact this
      have hres : (wo.alloc (.cells (iv 32 fun _ => 0) 47)).heap[wo.heap.size]? = some (.cells (iv 32 fun _ => 0) 47 (0, 0)) := heap_alloc_new wo _
      have hold : Hid ((iv 32 fun _ => 0).size = (ivl 32 FA).toArray.size) := by show _ = _; rw [iv_size]; simp [ivl_length]
      have hs7F : Hid ((Try.prog.info? 47).map (·.size) = some (ivl 32 FA).toArray.size) := size47 FA
      have hone : Hid ((ivl 32 FA).toArray.all (·.oneCell') = true) := iv_one 32 FA
      have hP : Hid (Blk ((wo.alloc (.cells (iv 32 fun _ => 0) 47)).setRow wo.heap.size (ivl 32 FA).toArray) wo.heap.size 47 32 FA ∧ Fw w ((wo.alloc (.cells (iv 32 fun _ => 0) 47)).setRow wo.heap.size (ivl 32 FA).toArray) c (N * 32) h3) := by
        have h8 := hA.out.later ((Below.refl _ _).alloc (Nat.le_refl _) (.cells (iv 32 fun _ => 0) 47))
        have l1 := hA.out.at_.lt
        have hk : Keep (wo.alloc (.cells (iv 32 fun _ => 0) 47)) ((wo.alloc (.cells (iv 32 fun _ => 0) 47)).setRow wo.heap.size (ivl 32 FA).toArray) [wo.heap.size] := Keep.setRow _ _ _ _ (by simp)
        exact ⟨setRow_heap _ _ _ _ 47 _ hres, ⟨h8.at_.keep hk (by simp; omega), hk.below h8.below (by intro j hj; rw [List.mem_singleton] at hj; rw [hj]; exact hA.out.below.size), h8.new⟩⟩
      have HQ1 := Lib.hid q1
      have HBK := Lib.hid hbk
      have hfin : Hid (∀ W8, Fw w W8 c (N * 32) h3 → Fw w (W8.setCells c (k * 32) (iv 32 SA).toList) c (N * 32) (wabK (k + 1) f)) := fun W8 hW => (hW.put (k * 32) 32 SA).congr fun i hi => hst.out i
      clear q1 hfe hh3 hSA hFA hst hA hbk
      go_upto_region 5 with (first | (refine wpList_load_mid rfl 47 _ rfl c (k * 32) rfl (ivl 32 FA) _ hrg Try.underlying47 rfl (hz7.out FA) ?_) | (refine wpList_store_row rfl 47 _ _ rfl wo.heap.size (ivl 32 FA).toArray rfl rfl 47 _ hres hs7F.out hold.out hone.out ?_))
      generalize (wo.alloc (.cells (iv 32 fun _ => 0) 47)).setRow wo.heap.size (ivl 32 FA).toArray = W5 at *
      generalize wo.heap.size = p at *
      have hct : Hid (∀ q W', Blk W' p 47 32 FA → W'.cell? ⟨q, 0, none⟩ = some (.int .i64 16777216) → Calls Try.prog 13 #[.slice (some ⟨p, 0, none⟩) 32 32, .func (.func 26) #[] #[.pointer (some ⟨q, 0, none⟩)]] W' fun e w' => e = .returned (.bool false) ∧ W' = w') := fun q W' hB hc =>
        (contains_26 q _ _ W' (Rd.blk hB) (by simp) (fun x hx => by
          obtain ⟨i, hi, rfl⟩ := List.mem_map.1 hx
          exact great1_is 16777216 _ q (by omega) (HBK.out i).1 (HBK.out i).2 _ hc)).mono (fun e w' h => ⟨h.1, h.2.symm⟩)
      simp only [Act.put]
      have hgd := great_drew 16777216 W5
      go_region_with (first | (go_at_call 14; (with_reducible refine hgd.mono ?_); rintro e w8 ⟨rfl, hb8, hc8⟩; have hB8 := Lib.hid hb8; have q13 := hct.out _ w8 (hP.out.1.below hB8.out) hc8; clear hb8 hc8) | (go_at_call 13; (with_reducible refine q13.mono ?_); rintro e w9 ⟨rfl, h9⟩; subst h9; clear q13))
      have hF8 := Lib.hid (hP.out.2.later hB8.out)
      have hrow := hP.out.1.below hB8.out
      unfold Blk at hrow
      have hq1 := HQ1.out w8
      have hs47 := Lib.hid (hs7.out FA)
      have hs47S := Lib.hid (hs7.out SA)
      have hfn : Hid (∀ W9, Below w8.heap.size w8 W9 → Fw w (W9.setCells c (k * 32) (iv 32 SA).toList) c (N * 32) (wabK (k + 1) f)) := fun W9 hb => hfin.out W9 (hF8.out.later hb)
      have hthr : Hid (∀ W9, Below w8.heap.size w8 W9 → W9.there c (k * 32) (iv 32 SA).size) := fun W9 hb => by rw [iv_size]; exact (hF8.out.later hb).at_.there (k * 32) 32 (by omega)
      clear hfin HQ1 hct hgd hP hF8 hB8 hrg hres hold hs7F hone HBK
      go_upto_region 8 with (first | (refine wpList_load_row rfl 47 _ rfl p rfl 47 (iv 32 FA) (0, 0) _ hrow Try.underlying47 rfl hs47.out ?_) | (go_at_call 20; (with_reducible refine hq1.mono ?_); rintro e w9 ⟨rfl, hb9⟩; have hth := hthr.out w9 hb9; have hN := Lib.hid (hfn.out w9 hb9); clear hb9 hq1) | (refine wpList_store_mid rfl 47 _ _ rfl c (k * 32) (iv 32 SA) rfl rfl hth hs47S.out (iv_one 32 SA) ?_))
      generalize w9.setCells c (k * 32) (iv 32 SA).toList = W9 at *
      clear hth hthr hfn hrow
      go_wp2
      go_roundw
      case rel => exact ⟨k + 1, by omega, by go_num, hN⟩
      case measure => simp [intOf]; omega
    · obtain rfl : N = k := by omega
      obtain ⟨P, hP⟩ : ∃ P, N = P + 1 := ⟨N - 1, by omega⟩
      have hNP : (N : Int) - 1 = (P : Int) := by omega
      have hmx : Max.max (P : Int) 0 = (P : Int) := by omega
      have hPN : (P : Int) < (N : Int) := by omega
      obtain ⟨F1, hF1e⟩ : ∃ F1, F1 = wabK N f := ⟨_, rfl⟩
      rw [← hF1e] at hA
      have hSF : Hid (samplesF N f = unseamK P F1) := by show _ = _; rw [hF1e]; unfold samplesF; rw [show N - 1 = P by omega]
      have hF1 : Hid (Fw w wo c (N * 32) (unseamK 0 F1)) := hA.out
      have HP := Lib.hid hP
      clear hA hP hF1e HBF
      go_wp2
      go_loopw [33] (fun q wr => ∃ k : Nat, k ≤ P ∧ q = .int .i64 k ∧ Hid (Fw w wr c (N * 32) (unseamK k F1))) (fun q _ => P - (intOf q).toNat)
      case atStart => exact ⟨0, by omega, rfl, hF1⟩
      case round =>
        clear hF1
        obtain ⟨k, hk, rfl, hA⟩ := hrel
        obtain ⟨wo, rfl⟩ : ∃ wo : World, wo = wr := ⟨_, rfl⟩
        by_cases hlt : k < P
        · have hst : Hid (unseamK (k + 1) F1 = unseamAt k (unseamK k F1)) := rfl
          obtain ⟨h, hh⟩ : ∃ h, h = unseamK k F1 := ⟨_, rfl⟩
          rw [← hh] at hA hst
          obtain ⟨k1, hk1⟩ : ∃ k1, k1 = k + 1 := ⟨_, rfl⟩
          have e1 : (k : Int) + 1 = (k1 : Int) := by omega
          have ew1 : IntKind.i64.wrap (k1 : Int) = (k1 : Int) := by rw [IntKind.wrap_i64]; omega
          have hkN : (k : Int) < (N : Int) := by omega
          have hk1N : (k1 : Int) < (N : Int) := by omega
          have hkP : (k : Int) < (P : Int) := by omega
          have hbd : Hid (k * 32 + 32 ≤ N * 32 ∧ k1 * 32 + 32 ≤ N * 32) := by show _ ∧ _; omega
          have hq := fun w => unseam_is (fra h k) (fra h k1) w
          obtain ⟨SA, hSA⟩ : ∃ SA, SA = uA (fra h k) (fra h k1) 16 := ⟨_, rfl⟩
          obtain ⟨SB, hSB⟩ : ∃ SB, SB = uB (fra h k) (fra h k1) 16 := ⟨_, rfl⟩
          have hfin : Hid (∀ W6, Fw w W6 c (N * 32) (fun c => if k1 * 32 ≤ c ∧ c < k1 * 32 + 32 then SB (c - k1 * 32) else if k * 32 ≤ c ∧ c < k * 32 + 32 then SA (c - k * 32) else h c) → Fw w W6 c (N * 32) (unseamK (k + 1) F1)) := fun W6 h6 => h6.congr fun i hi => by
            rw [hst.out]
            unfold unseamAt
            rw [hSA, hSB, hk1]
          rw [← hSA, ← hSB] at hq
          obtain ⟨FA, hFA⟩ : ∃ FA, FA = fra h k := ⟨_, rfl⟩
          obtain ⟨FB, hFB⟩ : ∃ FB, FB = fra h k1 := ⟨_, rfl⟩
          rw [← hFA, ← hFB] at hq
          have rA : Hid (∀ W, Fw w W c (N * 32) h → W.rangeAt c (k * 32) (ivl 32 FA)) := fun W hW => by
            have := hW.at_.range (k * 32) 32 hbd.out.1
            rw [show ivl 32 FA = ivl 32 fun i => h (k * 32 + i) by rw [hFA]; exact ivl_congr fun i hi => by unfold fra; rw [if_pos hi]]
            exact this
          have rB : Hid (∀ W, Fw w W c (N * 32) h → W.rangeAt c (k1 * 32) (ivl 32 FB)) := fun W hW => by
            have := hW.at_.range (k1 * 32) 32 hbd.out.2
            rw [show ivl 32 FB = ivl 32 fun i => h (k1 * 32 + i) by rw [hFB]; exact ivl_congr fun i hi => by unfold fra; rw [if_pos hi]]
            exact this
          have HQ := Lib.hid hq
          clear hq hh hSA hSB hFA hFB hk1 hst
          go_upto_region 12 with (fail)
          obtain ⟨I, hI⟩ : ∃ I : (Nat → Bool) → Act → World → Prop, ∀ dn ac wc, I dn ac wc ↔ ∃ s36 s37 s38 s39 s40 s41 s42 s43 s44 s45 s46 s47 s48 s49 s50 s51 s52 s53 s54 s55, ac = ⟨#[Value.slice (some { block := g, off := 0 }) N cp, undef, Value.slice none 0 0, Value.slice (some { block := c, off := 0 }) N cap, u4, u5, Value.int IntKind.i64 ↑k, undef, undef, undef, Value.slice (some { block := g, off := 0 }) N cp, Value.slice (some { block := c, off := 0 }) N cap, Value.slice (some { block := c, off := 0 }) N cap, Value.int IntKind.i64 ↑N, Value.int IntKind.i64 ↑N, Value.bool false, u16, u17, u18, u19, u20, u21, u22, u23, u24, u25, u26, u27, u28, Value.slice (some { block := c, off := 0 }) N cap, Value.int IntKind.i64 ↑N, Value.int IntKind.i64 ↑P, Value.int IntKind.i64 ↑P, Value.int IntKind.i64 ↑k, Value.bool true, Value.int IntKind.i64 ↑k, s36, s37, s38, s39, s40, s41, s42, s43, s44, s45, s46, s47, s48, s49, s50, s51, s52, s53, s54, s55, u56, undef, undef, undef, undef, undef, undef, undef, undef, undef, undef, undef], []⟩ ∧
            St2 wc dn [(0, .slice (some ⟨c, 0, none⟩) N cap, s37), (1, .int .i64 (k : Nat), s38), (2, .slice (some ⟨c, 0, none⟩) N cap, s39), (3, .int .i64 (k : Nat), s40), (4, .int .i64 (k1 : Nat), s41), (5, .slice (some ⟨c, 0, none⟩) N cap, s42), (6, .int .i64 (k : Nat), s43), (7, .pointer (some ⟨c, k * 32, none⟩), s44), (8, .agg (iv 32 FA), s45), (9, .slice (some ⟨c, 0, none⟩) N cap, s46), (10, .int .i64 (k : Nat), s47), (11, .int .i64 (k1 : Nat), s48), (12, .pointer (some ⟨c, k1 * 32, none⟩), s49), (13, .agg (iv 32 FB), s50), (14, .tuple #[.agg (iv 32 SA), .agg (iv 32 SB)], s51), (15, .tuple #[.agg (iv 32 SA), .agg (iv 32 SB)], s36), (16, .agg (iv 32 SA), s52), (17, .agg (iv 32 SB), s53), (18, .pointer (some ⟨c, k * 32, none⟩), s54), (20, .pointer (some ⟨c, k1 * 32, none⟩), s55)] (fun w' => Fw w w' c (N * 32) h) (fun w' => Fw w w' c (N * 32) fun c => if k * 32 ≤ c ∧ c < k * 32 + 32 then SA (c - k * 32) else h c) (fun w' => Fw w w' c (N * 32) fun c => if k1 * 32 ≤ c ∧ c < k1 * 32 + 32 then SB (c - k1 * 32) else if k * 32 ≤ c ∧ c < k * 32 + 32 then SA (c - k * 32) else h c) 19 21 [8, 13] := ⟨_, fun _ _ _ => Iff.rfl⟩
          have HI := Lib.hid hI
          clear hI
          refine wp_region_inv (by kernel_rfl) (by kernel_rfl) I ?_ ?_ ?_
          · exact (HI.out _ _ _).2 ⟨_, _, _, _, _, _, _, _, _, _, _, _, _, _, _, _, _, _, _, _, rfl, St2.start _ _ _ _ _ _ _ _ hA.out (fun _ _ h hb => h.later hb)⟩
          · intro i o dn ac wc ho hd hdep hIn
            obtain ⟨s36, s37, s38, s39, s40, s41, s42, s43, s44, s45, s46, s47, s48, s49, s50, s51, s52, s53, s54, s55, rfl, hT⟩ := (HI.out _ _ _).1 hIn
            clear hIn
            rcases i with _ | _ | _ | _ | _ | _ | _ | _ | _ | _ | _ | _ | _ | _ | _ | _ | _ | _ | _ | _ | _ | _ | i
            · obtain rfl := Option.some.inj ho
              have HT := Lib.hid hT
              clear hT hdep
              refine .inl ?_
              unfold Oper.wp
              go_simp
              exact (HI.out _ _ _).2 ⟨_, _, _, _, _, _, _, _, _, _, _, _, _, _, _, _, _, _, _, _, rfl, (HT.out).put 0 0 (.slice (some ⟨c, 0, none⟩) N cap) (by decide) rfl⟩
            · obtain rfl := Option.some.inj ho
              have HT := Lib.hid hT
              clear hT hdep
              refine .inl ?_
              unfold Oper.wp
              go_simp
              exact (HI.out _ _ _).2 ⟨_, _, _, _, _, _, _, _, _, _, _, _, _, _, _, _, _, _, _, _, rfl, (HT.out).put 1 1 (.int .i64 (k : Nat)) (by decide) rfl⟩
            · obtain rfl := Option.some.inj ho
              have HT := Lib.hid hT
              clear hT hdep
              refine .inl ?_
              unfold Oper.wp
              go_simp
              exact (HI.out _ _ _).2 ⟨_, _, _, _, _, _, _, _, _, _, _, _, _, _, _, _, _, _, _, _, rfl, (HT.out).put 2 2 (.slice (some ⟨c, 0, none⟩) N cap) (by decide) rfl⟩
            · obtain rfl := Option.some.inj ho
              have HT := Lib.hid hT
              clear hT hdep
              refine .inl ?_
              unfold Oper.wp
              go_simp
              exact (HI.out _ _ _).2 ⟨_, _, _, _, _, _, _, _, _, _, _, _, _, _, _, _, _, _, _, _, rfl, (HT.out).put 3 3 (.int .i64 (k : Nat)) (by decide) rfl⟩
            · obtain rfl := Option.some.inj ho
              have e3 := hT.vals _ (List.Mem.tail _ (List.Mem.tail _ (List.Mem.tail _ (List.Mem.head _)))) (hdep ⟨3, .data⟩ (by simp) rfl)
              dsimp only at e3
              subst e3
              have HT := Lib.hid hT
              clear hT hdep
              refine .inl ?_
              unfold Oper.wp
              go_simp
              exact (HI.out _ _ _).2 ⟨_, _, _, _, _, _, _, _, _, _, _, _, _, _, _, _, _, _, _, _, rfl, (HT.out).put 4 4 (.int .i64 (k1 : Nat)) (by decide) rfl⟩
            · obtain rfl := Option.some.inj ho
              have HT := Lib.hid hT
              clear hT hdep
              refine .inl ?_
              unfold Oper.wp
              go_simp
              exact (HI.out _ _ _).2 ⟨_, _, _, _, _, _, _, _, _, _, _, _, _, _, _, _, _, _, _, _, rfl, (HT.out).put 5 5 (.slice (some ⟨c, 0, none⟩) N cap) (by decide) rfl⟩
            · obtain rfl := Option.some.inj ho
              have HT := Lib.hid hT
              clear hT hdep
              refine .inl ?_
              unfold Oper.wp
              go_simp
              exact (HI.out _ _ _).2 ⟨_, _, _, _, _, _, _, _, _, _, _, _, _, _, _, _, _, _, _, _, rfl, (HT.out).put 6 6 (.int .i64 (k : Nat)) (by decide) rfl⟩
            · obtain rfl := Option.some.inj ho
              have e5 := hT.vals _ (List.Mem.tail _ (List.Mem.tail _ (List.Mem.tail _ (List.Mem.tail _ (List.Mem.tail _ (List.Mem.head _)))))) (hdep ⟨5, .data⟩ (by simp) rfl)
              dsimp only at e5
              subst e5
              have e6 := hT.vals _ (List.Mem.tail _ (List.Mem.tail _ (List.Mem.tail _ (List.Mem.tail _ (List.Mem.tail _ (List.Mem.tail _ (List.Mem.head _))))))) (hdep ⟨6, .data⟩ (by simp) rfl)
              dsimp only at e6
              subst e6
              have HT := Lib.hid hT
              clear hT hdep
              refine .inl ?_
              unfold Oper.wp
              go_simp
              exact (HI.out _ _ _).2 ⟨_, _, _, _, _, _, _, _, _, _, _, _, _, _, _, _, _, _, _, _, rfl, (HT.out).put 7 7 (.pointer (some ⟨c, k * 32, none⟩)) (by decide) rfl⟩
            · obtain rfl := Option.some.inj ho
              have e7 := hT.vals _ (List.Mem.tail _ (List.Mem.tail _ (List.Mem.tail _ (List.Mem.tail _ (List.Mem.tail _ (List.Mem.tail _ (List.Mem.tail _ (List.Mem.head _)))))))) (hdep ⟨7, .data⟩ (by simp) rfl)
              dsimp only at e7
              subst e7
              have hS := hT.at0 8 hd (by decide)
              have hrg := rA.out _ hS
              have HT := Lib.hid hT
              clear hT hdep
              clear hS
              refine .inl (wp_load_mid 47 (.tmp 44) rfl c (k * 32) rfl (ivl 32 FA) _ hrg Try.underlying47 rfl (hz7.out FA) ?_)
              exact (HI.out _ _ _).2 ⟨_, _, _, _, _, _, _, _, _, _, _, _, _, _, _, _, _, _, _, _, rfl, (HT.out).put 8 8 (.agg (iv 32 FA)) (by decide) rfl⟩
            · obtain rfl := Option.some.inj ho
              have HT := Lib.hid hT
              clear hT hdep
              refine .inl ?_
              unfold Oper.wp
              go_simp
              exact (HI.out _ _ _).2 ⟨_, _, _, _, _, _, _, _, _, _, _, _, _, _, _, _, _, _, _, _, rfl, (HT.out).put 9 9 (.slice (some ⟨c, 0, none⟩) N cap) (by decide) rfl⟩
            · obtain rfl := Option.some.inj ho
              have HT := Lib.hid hT
              clear hT hdep
              refine .inl ?_
              unfold Oper.wp
              go_simp
              exact (HI.out _ _ _).2 ⟨_, _, _, _, _, _, _, _, _, _, _, _, _, _, _, _, _, _, _, _, rfl, (HT.out).put 10 10 (.int .i64 (k : Nat)) (by decide) rfl⟩
            · obtain rfl := Option.some.inj ho
              have e10 := hT.vals _ (List.Mem.tail _ (List.Mem.tail _ (List.Mem.tail _ (List.Mem.tail _ (List.Mem.tail _ (List.Mem.tail _ (List.Mem.tail _ (List.Mem.tail _ (List.Mem.tail _ (List.Mem.tail _ (List.Mem.head _))))))))))) (hdep ⟨10, .data⟩ (by simp) rfl)
              dsimp only at e10
              subst e10
              have HT := Lib.hid hT
              clear hT hdep
              refine .inl ?_
              unfold Oper.wp
              go_simp
              exact (HI.out _ _ _).2 ⟨_, _, _, _, _, _, _, _, _, _, _, _, _, _, _, _, _, _, _, _, rfl, (HT.out).put 11 11 (.int .i64 (k1 : Nat)) (by decide) rfl⟩
            · obtain rfl := Option.some.inj ho
              have e9 := hT.vals _ (List.Mem.tail _ (List.Mem.tail _ (List.Mem.tail _ (List.Mem.tail _ (List.Mem.tail _ (List.Mem.tail _ (List.Mem.tail _ (List.Mem.tail _ (List.Mem.tail _ (List.Mem.head _)))))))))) (hdep ⟨9, .data⟩ (by simp) rfl)
              dsimp only at e9
              subst e9
              have e11 := hT.vals _ (List.Mem.tail _ (List.Mem.tail _ (List.Mem.tail _ (List.Mem.tail _ (List.Mem.tail _ (List.Mem.tail _ (List.Mem.tail _ (List.Mem.tail _ (List.Mem.tail _ (List.Mem.tail _ (List.Mem.tail _ (List.Mem.head _)))))))))))) (hdep ⟨11, .data⟩ (by simp) rfl)
              dsimp only at e11
              subst e11
              have HT := Lib.hid hT
              clear hT hdep
              refine .inl ?_
              unfold Oper.wp
              go_simp
              exact (HI.out _ _ _).2 ⟨_, _, _, _, _, _, _, _, _, _, _, _, _, _, _, _, _, _, _, _, rfl, (HT.out).put 12 12 (.pointer (some ⟨c, k1 * 32, none⟩)) (by decide) rfl⟩
            · obtain rfl := Option.some.inj ho
              have e12 := hT.vals _ (List.Mem.tail _ (List.Mem.tail _ (List.Mem.tail _ (List.Mem.tail _ (List.Mem.tail _ (List.Mem.tail _ (List.Mem.tail _ (List.Mem.tail _ (List.Mem.tail _ (List.Mem.tail _ (List.Mem.tail _ (List.Mem.tail _ (List.Mem.head _))))))))))))) (hdep ⟨12, .data⟩ (by simp) rfl)
              dsimp only at e12
              subst e12
              have hS := hT.at0 13 hd (by decide)
              have hrg := rB.out _ hS
              have HT := Lib.hid hT
              clear hT hdep
              clear hS
              refine .inl (wp_load_mid 47 (.tmp 49) rfl c (k1 * 32) rfl (ivl 32 FB) _ hrg Try.underlying47 rfl (hz7.out FB) ?_)
              exact (HI.out _ _ _).2 ⟨_, _, _, _, _, _, _, _, _, _, _, _, _, _, _, _, _, _, _, _, rfl, (HT.out).put 13 13 (.agg (iv 32 FB)) (by decide) rfl⟩
            · obtain rfl := Option.some.inj ho
              have e8 := hT.vals _ (List.Mem.tail _ (List.Mem.tail _ (List.Mem.tail _ (List.Mem.tail _ (List.Mem.tail _ (List.Mem.tail _ (List.Mem.tail _ (List.Mem.tail _ (List.Mem.head _))))))))) (hdep ⟨8, .data⟩ (by simp) rfl)
              dsimp only at e8
              subst e8
              have e13 := hT.vals _ (List.Mem.tail _ (List.Mem.tail _ (List.Mem.tail _ (List.Mem.tail _ (List.Mem.tail _ (List.Mem.tail _ (List.Mem.tail _ (List.Mem.tail _ (List.Mem.tail _ (List.Mem.tail _ (List.Mem.tail _ (List.Mem.tail _ (List.Mem.tail _ (List.Mem.head _)))))))))))))) (hdep ⟨13, .data⟩ (by simp) rfl)
              dsimp only at e13
              subst e13
              have HT := Lib.hid hT
              clear hT hdep
              refine .inl ?_
              unfold Oper.wp
              go_simp
              (with_reducible refine (HQ.out _).mono ?_); rintro e w1 ⟨rfl, hb1⟩
              exact (HI.out _ _ _).2 ⟨_, _, _, _, _, _, _, _, _, _, _, _, _, _, _, _, _, _, _, _, rfl, (HT.out.later (fun _ _ h hb => h.later hb) (fun _ _ h hb => h.later hb) (fun _ _ h hb => h.later hb) hb1).put 14 14 (.tuple #[.agg (iv 32 SA), .agg (iv 32 SB)]) (by decide) rfl⟩
            · obtain rfl := Option.some.inj ho
              have e14 := hT.vals _ (List.Mem.tail _ (List.Mem.tail _ (List.Mem.tail _ (List.Mem.tail _ (List.Mem.tail _ (List.Mem.tail _ (List.Mem.tail _ (List.Mem.tail _ (List.Mem.tail _ (List.Mem.tail _ (List.Mem.tail _ (List.Mem.tail _ (List.Mem.tail _ (List.Mem.tail _ (List.Mem.head _))))))))))))))) (hdep ⟨14, .data⟩ (by simp) rfl)
              dsimp only at e14
              subst e14
              have HT := Lib.hid hT
              clear hT hdep
              refine .inl ?_
              unfold Oper.wp
              go_simp
              exact (HI.out _ _ _).2 ⟨_, _, _, _, _, _, _, _, _, _, _, _, _, _, _, _, _, _, _, _, rfl, (HT.out).put 15 15 (.tuple #[.agg (iv 32 SA), .agg (iv 32 SB)]) (by decide) rfl⟩
            · obtain rfl := Option.some.inj ho
              have e15 := hT.vals _ (List.Mem.tail _ (List.Mem.tail _ (List.Mem.tail _ (List.Mem.tail _ (List.Mem.tail _ (List.Mem.tail _ (List.Mem.tail _ (List.Mem.tail _ (List.Mem.tail _ (List.Mem.tail _ (List.Mem.tail _ (List.Mem.tail _ (List.Mem.tail _ (List.Mem.tail _ (List.Mem.tail _ (List.Mem.head _)))))))))))))))) (hdep ⟨15, .data⟩ (by simp) rfl)
              dsimp only at e15
              subst e15
              have HT := Lib.hid hT
              clear hT hdep
              refine .inl ?_
              unfold Oper.wp
              go_simp
              exact (HI.out _ _ _).2 ⟨_, _, _, _, _, _, _, _, _, _, _, _, _, _, _, _, _, _, _, _, rfl, (HT.out).put 16 16 (.agg (iv 32 SA)) (by decide) rfl⟩
            · obtain rfl := Option.some.inj ho
              have e15 := hT.vals _ (List.Mem.tail _ (List.Mem.tail _ (List.Mem.tail _ (List.Mem.tail _ (List.Mem.tail _ (List.Mem.tail _ (List.Mem.tail _ (List.Mem.tail _ (List.Mem.tail _ (List.Mem.tail _ (List.Mem.tail _ (List.Mem.tail _ (List.Mem.tail _ (List.Mem.tail _ (List.Mem.tail _ (List.Mem.head _)))))))))))))))) (hdep ⟨15, .data⟩ (by simp) rfl)
              dsimp only at e15
              subst e15
              have HT := Lib.hid hT
              clear hT hdep
              refine .inl ?_
              unfold Oper.wp
              go_simp
              exact (HI.out _ _ _).2 ⟨_, _, _, _, _, _, _, _, _, _, _, _, _, _, _, _, _, _, _, _, rfl, (HT.out).put 17 17 (.agg (iv 32 SB)) (by decide) rfl⟩
            · obtain rfl := Option.some.inj ho
              have e0 := hT.vals _ (List.Mem.head _) (hdep ⟨0, .data⟩ (by simp) rfl)
              dsimp only at e0
              subst e0
              have e1 := hT.vals _ (List.Mem.tail _ (List.Mem.head _)) (hdep ⟨1, .data⟩ (by simp) rfl)
              dsimp only at e1
              subst e1
              have HT := Lib.hid hT
              clear hT hdep
              refine .inl ?_
              unfold Oper.wp
              go_simp
              exact (HI.out _ _ _).2 ⟨_, _, _, _, _, _, _, _, _, _, _, _, _, _, _, _, _, _, _, _, rfl, (HT.out).put 18 18 (.pointer (some ⟨c, k * 32, none⟩)) (by decide) rfl⟩
            · obtain rfl := Option.some.inj ho
              have e18 := hT.vals _ (List.Mem.tail _ (List.Mem.tail _ (List.Mem.tail _ (List.Mem.tail _ (List.Mem.tail _ (List.Mem.tail _ (List.Mem.tail _ (List.Mem.tail _ (List.Mem.tail _ (List.Mem.tail _ (List.Mem.tail _ (List.Mem.tail _ (List.Mem.tail _ (List.Mem.tail _ (List.Mem.tail _ (List.Mem.tail _ (List.Mem.tail _ (List.Mem.tail _ (List.Mem.head _))))))))))))))))))) (hdep ⟨18, .data⟩ (by simp) rfl)
              dsimp only at e18
              subst e18
              have e16 := hT.vals _ (List.Mem.tail _ (List.Mem.tail _ (List.Mem.tail _ (List.Mem.tail _ (List.Mem.tail _ (List.Mem.tail _ (List.Mem.tail _ (List.Mem.tail _ (List.Mem.tail _ (List.Mem.tail _ (List.Mem.tail _ (List.Mem.tail _ (List.Mem.tail _ (List.Mem.tail _ (List.Mem.tail _ (List.Mem.tail _ (List.Mem.head _))))))))))))))))) (hdep ⟨16, .data⟩ (by simp) rfl)
              dsimp only at e16
              subst e16
              have hpre : ∀ e ∈ [8, 13], dn e = true := by
                intro e he
                simp only [List.mem_cons, List.not_mem_nil, or_false] at he
                rcases he with rfl | rfl
                · exact hdep ⟨8, .phase⟩ (by simp) rfl
                · exact hdep ⟨13, .phase⟩ (by simp) rfl
              have hS := hT.at0 19 hd (by decide)
              have hth := hS.at_.there (k * 32) 32 hbd.out.1
              have hnew := Lib.hid (hS.put (k * 32) 32 SA)
              have HT := Lib.hid hT
              clear hT hdep hS
              refine .inl (wp_store_mid 47 (.tmp 54) (.tmp 52) rfl c (k * 32) (iv 32 SA) rfl rfl (by rw [iv_size]; exact hth) (size47 SA) (iv_one 32 SA) ?_)
              exact (HI.out _ _ _).2 ⟨_, _, _, _, _, _, _, _, _, _, _, _, _, _, _, _, _, _, _, _, rfl, HT.out.fst hd (by decide) hpre rfl hnew.out⟩
            · obtain rfl := Option.some.inj ho
              have e2 := hT.vals _ (List.Mem.tail _ (List.Mem.tail _ (List.Mem.head _))) (hdep ⟨2, .data⟩ (by simp) rfl)
              dsimp only at e2
              subst e2
              have e4 := hT.vals _ (List.Mem.tail _ (List.Mem.tail _ (List.Mem.tail _ (List.Mem.tail _ (List.Mem.head _))))) (hdep ⟨4, .data⟩ (by simp) rfl)
              dsimp only at e4
              subst e4
              have HT := Lib.hid hT
              clear hT hdep
              refine .inl ?_
              unfold Oper.wp
              go_simp
              exact (HI.out _ _ _).2 ⟨_, _, _, _, _, _, _, _, _, _, _, _, _, _, _, _, _, _, _, _, rfl, (HT.out).put 20 19 (.pointer (some ⟨c, k1 * 32, none⟩)) (by decide) rfl⟩
            · obtain rfl := Option.some.inj ho
              have e20 := hT.vals _ (List.Mem.tail _ (List.Mem.tail _ (List.Mem.tail _ (List.Mem.tail _ (List.Mem.tail _ (List.Mem.tail _ (List.Mem.tail _ (List.Mem.tail _ (List.Mem.tail _ (List.Mem.tail _ (List.Mem.tail _ (List.Mem.tail _ (List.Mem.tail _ (List.Mem.tail _ (List.Mem.tail _ (List.Mem.tail _ (List.Mem.tail _ (List.Mem.tail _ (List.Mem.tail _ (List.Mem.head _)))))))))))))))))))) (hdep ⟨20, .data⟩ (by simp) rfl)
              dsimp only at e20
              subst e20
              have e17 := hT.vals _ (List.Mem.tail _ (List.Mem.tail _ (List.Mem.tail _ (List.Mem.tail _ (List.Mem.tail _ (List.Mem.tail _ (List.Mem.tail _ (List.Mem.tail _ (List.Mem.tail _ (List.Mem.tail _ (List.Mem.tail _ (List.Mem.tail _ (List.Mem.tail _ (List.Mem.tail _ (List.Mem.tail _ (List.Mem.tail _ (List.Mem.tail _ (List.Mem.head _)))))))))))))))))) (hdep ⟨17, .data⟩ (by simp) rfl)
              dsimp only at e17
              subst e17
              have hi1 := hdep ⟨19, .chain⟩ (by simp) rfl
              have hS := hT.at1 hd hi1
              have hth := hS.at_.there (k1 * 32) 32 hbd.out.2
              have hnew := Lib.hid (hS.put (k1 * 32) 32 SB)
              have HT := Lib.hid hT
              clear hT hdep hS
              refine .inl (wp_store_mid 47 (.tmp 55) (.tmp 53) rfl c (k1 * 32) (iv 32 SB) rfl rfl (by rw [iv_size]; exact hth) (size47 SB) (iv_one 32 SB) ?_)
              exact (HI.out _ _ _).2 ⟨_, _, _, _, _, _, _, _, _, _, _, _, _, _, _, _, _, _, _, _, rfl, HT.out.snd (by decide) hi1 rfl hnew.out⟩
            · cases ho
          · intro dn ac wc hd hIn
            obtain ⟨s36, s37, s38, s39, s40, s41, s42, s43, s44, s45, s46, s47, s48, s49, s50, s51, s52, s53, s54, s55, rfl, hT⟩ := (HI.out _ _ _).1 hIn
            have hF := Lib.hid (hT.done (hd 21 (by decide)))
            clear HI hIn hT hd
            have hN := Lib.hid (hfin.out _ hF.out)
            clear hF hfin
            go_wp2
            go_roundw
            case rel => exact ⟨k + 1, by omega, by go_num, hN⟩
            case measure => simp [intOf]; omega
        · rw [show (k : Int) = (P : Int) by omega]
          obtain rfl : P = k := by omega
          obtain ⟨G, hG⟩ : ∃ G, G = unseamK P F1 := ⟨_, rfl⟩
          rw [← hG] at hA
          have hSG : Hid (samplesF N f = G) := by show _ = _; rw [hSF.out, hG]
          have hO0 : Hid (So w wo c (N * 32) G (.slice none 0 0) ((List.range (0 * 32)).map G)) := ⟨hA.out, Own.nil _ _ _, by simp [foot_nil]⟩
          clear hA hG hSF
          go_wp2
          go_loopw [7, 59] (fun v q wr => ∃ k : Nat, k ≤ N ∧ q = .int .i64 k ∧ Hid (So w wr c (N * 32) G v ((List.range (k * 32)).map G))) (fun v q _ => N - (intOf q).toNat)
          case atStart => exact ⟨0, by omega, rfl, hO0⟩
          case round =>
            clear hO0
            obtain ⟨k, hk, rfl, hA⟩ := hrel
            obtain ⟨wo, rfl⟩ : ∃ wo : World, wo = wr := ⟨_, rfl⟩
            by_cases hlt : k < N
            · have hkN : (k : Int) < (N : Int) := by omega
              obtain ⟨FA, hFA⟩ : ∃ FA : F, FA = fun i => G (k * 32 + i) := ⟨_, rfl⟩
              have hrg : wo.rangeAt c (k * 32) (ivl 32 FA) := by rw [hFA]; exact hA.out.fw.at_.range (k * 32) 32 (by omega)
              have hls : (List.range (k * 32)).map G ++ (List.range 32).map FA = (List.range ((k + 1) * 32)).map G := by
                rw [show (k + 1) * 32 = k * 32 + 32 by omega, List.range_add, List.map_append, List.map_map, hFA]
                rfl
              have hll : ((List.range (k * 32)).map G).length = k * 32 := by simp
              obtain ⟨XS, hXS⟩ : ∃ XS, XS = (List.range (k * 32)).map G := ⟨_, rfl⟩
              rw [← hXS] at hA hls hll
              have hres : (wo.alloc (.cells (iv 32 fun _ => 0) 47)).heap[wo.heap.size]? = some (.cells (iv 32 fun _ => 0) 47 (0, 0)) := heap_alloc_new wo _
              have hold : Hid ((iv 32 fun _ => 0).size = (ivl 32 FA).toArray.size) := by show _ = _; rw [iv_size]; simp [ivl_length]
              have hs7F : Hid ((Try.prog.info? 47).map (·.size) = some (ivl 32 FA).toArray.size) := size47 FA
              have hone : Hid ((ivl 32 FA).toArray.all (·.oneCell') = true) := iv_one 32 FA
              have hP : Hid (Blk ((wo.alloc (.cells (iv 32 fun _ => 0) 47)).setRow wo.heap.size (ivl 32 FA).toArray) wo.heap.size 47 32 FA ∧ So w ((wo.alloc (.cells (iv 32 fun _ => 0) 47)).setRow wo.heap.size (ivl 32 FA).toArray) c (N * 32) G u7 XS) := by
                have h8 := hA.out.later ((Below.refl _ _).alloc (Nat.le_refl _) (.cells (iv 32 fun _ => 0) 47))
                have l1 := hA.out.fw.at_.lt
                have hk : Keep (wo.alloc (.cells (iv 32 fun _ => 0) 47)) ((wo.alloc (.cells (iv 32 fun _ => 0) 47)).setRow wo.heap.size (ivl 32 FA).toArray) [wo.heap.size] := Keep.setRow _ _ _ _ (by simp)
                have hft := hA.out.own.lt
                exact ⟨setRow_heap _ _ _ _ 47 _ hres, ⟨⟨h8.fw.at_.keep hk (by simp; omega), hk.below h8.fw.below (by intro j hj; rw [List.mem_singleton] at hj; rw [hj]; exact hA.out.fw.below.size), h8.fw.new⟩, h8.own.keep hk (fun j hj hj2 => by rw [List.mem_singleton] at hj2; have := hft j hj; omega), h8.news⟩⟩
              have HLS := Lib.hid hls
              have hlen : Hid ((XS.length + 32) * 8 ≤ 140737488355328) := by show _ ≤ _; omega
              have hz7F := Lib.hid (hz7.out FA)
              clear hFA hls hll hXS hA
              go_upto_region 18 with (first | (refine wpList_load_mid rfl 47 _ rfl c (k * 32) rfl (ivl 32 FA) _ hrg Try.underlying47 rfl hz7F.out ?_) | (refine wpList_store_row rfl 47 _ _ rfl wo.heap.size (ivl 32 FA).toArray rfl rfl 47 _ hres hs7F.out hold.out hone.out ?_))
              generalize (wo.alloc (.cells (iv 32 fun _ => 0) 47)).setRow wo.heap.size (ivl 32 FA).toArray = W5 at *
              generalize wo.heap.size = p at *
              have hcell : Hid (∀ i, i < 32 → W5.cell? ⟨p, i, none⟩ = some (.int .i64 (FA i))) := fun i hi => hP.out.1.cell i hi
              have HO := Lib.hid hP.out.2.own
              have hfn : Hid (∀ g2 cap2 W6, Own W6 3 .i64 (.slice (some ⟨g2, 0, none⟩) (XS ++ (List.range 32).map FA).length cap2) (XS ++ (List.range 32).map FA) → Keep W5 W6 (foot u7) → (g2 ∈ foot u7 ∨ W5.heap.size ≤ g2) → So w W6 c (N * 32) G (.slice (some ⟨g2, 0, none⟩) (XS ++ (List.range 32).map FA).length cap2) ((List.range ((k + 1) * 32)).map G)) := fun g2 cap2 W6 ho hk hf => by
                rw [← HLS.out]
                exact hP.out.2.push ho hk hf
              clear hP hrg hres hold hs7F hone HLS
              simp only [Act.put]
              go_wp2_with (at_builtin; refine append_blk rfl _ _ 22 rfl Try.underlying22 u7 XS p 32 32 FA rfl rfl HO.out hcell.out hlen.out (by omega) ?_; intro g3 c3 w3 ho3 hk3 hf3; have hN := Lib.hid (hfn.out g3 c3 w3 ho3 hk3 hf3); clear ho3 hk3 hf3)
              go_roundw
              case rel => exact ⟨k + 1, by omega, by go_num, by rw [List.length_append, List.length_map, List.length_range] at hN; exact hN⟩
              case measure => simp [intOf]; omega
            · obtain rfl : N = k := by omega
              have ho := Lib.hid hA.out.own
              have hbw := Lib.hid hA.out.fw.below
              clear hA
              go_wp2
              go_ret
              exact ⟨_, rfl, by rw [hSG.out]; exact ho.out, hbw.out⟩
end Go.Proofs.Ythoemgiadadfcaa
