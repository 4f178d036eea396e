/- Left and right ones out of middles and sides: the walk of mid.Join. -/
import Derived.Test.YthoemgiadadfcaaWsConcat
import Derived.Test.YthoemgiadadfcaaWsSamples
set_option linter.unusedVariables false
set_option linter.unusedSimpArgs false
namespace Go.Proofs.Ythoemgiadadfcaa
open Go.RowKit Go.Sort Ws
namespace Ws
def jn (ms ss : List Int) : Nat → List Int
  | 0 => []
  | k + 1 => jn ms ss k ++ [ms.getD k 0 - ss.getD k 0 / 2 + ss.getD k 0, ms.getD k 0 - ss.getD k 0 / 2]
end Ws
theorem jn_length (ms ss : List Int) : ∀ k, (jn ms ss k).length = 2 * k
  | 0 => rfl
  | k + 1 => by rw [jn, List.length_append, jn_length ms ss k]; simp; omega
/-- Two lists read, and what grows of them. -/
structure Jw (w0 w : World) (vm vs : Value) (ms ss : List Int) (v : Value) (l : List Int) : Prop where
  m : Own w 3 .i64 vm ms
  s : Own w 3 .i64 vs ss
  own : Own w 3 .i64 v l
  below : Below w0.heap.size w0 w
  news : ∀ j ∈ foot v, w0.heap.size ≤ j
  old : (∀ j ∈ foot vm, j < w0.heap.size) ∧ ∀ j ∈ foot vs, j < w0.heap.size
theorem Jw.later {w0 w w' : World} {vm vs v : Value} {ms ss l : List Int} (h : Jw w0 w vm vs ms ss v l) (hb : Below w.heap.size w w') : Jw w0 w' vm vs ms ss v l :=
  ⟨h.m.below hb, h.s.below hb, h.own.below hb, h.below.trans (hb.mono h.below.size), h.news, h.old⟩
theorem Jw.push {w0 w w1 : World} {vm vs v : Value} {ms ss l ys : List Int} {g cap : Nat} (h : Jw w0 w vm vs ms ss v l) (ho : Own w1 3 .i64 (.slice (some ⟨g, 0, none⟩) ys.length cap) ys) (hk : Keep w w1 (foot v)) (hf : g ∈ foot v ∨ w.heap.size ≤ g) :
    Jw w0 w1 vm vs ms ss (.slice (some ⟨g, 0, none⟩) ys.length cap) ys := by
  refine ⟨h.m.keep hk fun j hj hj2 => ?_, h.s.keep hk fun j hj hj2 => ?_, ho, hk.below h.below h.news, ?_, h.old⟩
  · have := h.old.1 j hj; have := h.news j hj2; omega
  · have := h.old.2 j hj; have := h.news j hj2; omega
  · intro j hj
    rw [foot_slice, List.mem_singleton] at hj
    subst hj
    rcases hf with h1 | h1
    · exact h.news _ h1
    · have := h.below.size; omega
set_option maxRecDepth 100000 in
set_option maxHeartbeats 3200000 in
theorem join_is (vm vs : Value) (ms ss : List Int) (n : Nat) (w : World) (hm : Own w 3 .i64 vm ms) (hs : Own w 3 .i64 vs ss) (hlm : ms.length = n) (hls : ss.length = n) (hn : n ≤ 1280)
    (bm : ∀ x ∈ ms, -16777216 ≤ x ∧ x ≤ 16777216) (bs : ∀ x ∈ ss, -16777216 ≤ x ∧ x ≤ 16777216) :
    Calls Try.prog 7 #[vm, vs] w fun e w' => ∃ v, e = .returned (.tuple #[v, .int .i64 0]) ∧ Own w' 3 .i64 v (jn ms ss n) ∧ Below w.heap.size w w' := by
  obtain ⟨am, cm, hvm⟩ := hm.shape
  obtain ⟨as_, cs_, hvs⟩ := hs.shape
  have hb1 : Below w.heap.size w (w.alloc (.cells #[vm, vs] 22)) := (Below.refl _ _).alloc (Nat.le_refl _) _
  have hrow : (w.alloc (.cells #[vm, vs] 22)).heap[w.heap.size]? = some (.cells #[vm, vs] 22 (0, 0)) := heap_alloc_new w _
  have hls2 : Ls (w.alloc (.cells #[vm, vs] 22)) w.heap.size 2 (fun i => if i = 0 then vm else vs) (fun i => if i = 0 then ms else if i = 1 then ss else []) := by
    refine ⟨fun i hi => ?_, fun i hi => ?_, by simp⟩
    · match i, hi with
      | 0, _ => exact cell_of_row _ _ 0 _ 22 (0, 0) hrow
      | 1, _ => exact cell_of_row _ _ 1 _ 22 (0, 0) hrow
    · match i, hi with
      | 0, _ => exact hm.below hb1
      | 1, _ => exact hs.below hb1
  have hgr := mgreat_is 16777216 (by omega) w.heap.size 2 _ _ _ hls2 (by omega) (fun i => by split; omega; split; omega; simp) (fun x hx => by
    have : x ∈ ms ++ ss := by simpa [flK] using hx
    rcases List.mem_append.1 this with h | h
    · exact bm x h
    · exact bs x h)
  have hJ0 : Hid (Jw w (w.alloc (.cells #[vm, vs] 22)) vm vs ms ss (.slice none 0 0) (jn ms ss 0)) := ⟨hm.below hb1, hs.below hb1, Own.nil _ _ _, hb1, by simp [foot_nil], hm.lt, hs.lt⟩
  have HBM := Lib.hid bm
  have HBS := Lib.hid bs
  have HLM := Lib.hid hlm
  have HLS := Lib.hid hls
  have HVM := Lib.hid hvm
  have HVS := Lib.hid hvs
  rw [hlm] at hvm
  rw [hls] at hvs
  subst hvm
  subst hvs
  clear hm hs hb1 hrow hls2 bm bs hlm hls
  go_enter Try.func7, Try.ntmps7
  go_upto_region 5 with (go_at_call 10; (with_reducible refine hgr.mono ?_); rintro e w8 ⟨rfl, hb8⟩; have hJ8 := Lib.hid (hJ0.out.later hb8); clear hgr hb8)
  go_wp2
  go_loopw [6, 23] (fun v i wr => ∃ k : Nat, k ≤ n ∧ i = .int .i64 k ∧ Hid (Jw w wr (.slice am n cm) (.slice as_ n cs_) ms ss v (jn ms ss k))) (fun v i _ => n - (intOf i).toNat)
  case atStart => exact ⟨0, by omega, rfl, hJ8⟩
  case round =>
    clear hJ8 hJ0
    obtain ⟨k, hk, rfl, hA⟩ := hrel
    obtain ⟨wo, rfl⟩ : ∃ wo : World, wo = wr := ⟨_, rfl⟩
    by_cases hlt : k < n
    · obtain ⟨gm, cm2, hfm⟩ := hA.out.m.form (by have := HLM.out; omega)
      obtain ⟨gs, cs2, hfs⟩ := hA.out.s.form (by have := HLS.out; omega)
      have hm' := hA.out.m
      have hs' := hA.out.s
      have ham : am = some ⟨gm, 0, none⟩ := by injection hfm
      have has : as_ = some ⟨gs, 0, none⟩ := by injection hfs
      subst ham
      subst has
      have l0 : wo.cell? ⟨gm, k, none⟩ = some (.int .i64 (ms.getD k 0)) := by
        rw [← HLM.out] at hm'
        exact hm'.at_ k (by have := HLM.out; omega)
      have l1 : wo.cell? ⟨gs, k, none⟩ = some (.int .i64 (ss.getD k 0)) := by
        rw [← HLS.out] at hs'
        exact hs'.at_ k (by have := HLS.out; omega)
      have bM : -16777216 ≤ ms.getD k 0 ∧ ms.getD k 0 ≤ 16777216 := HBM.out _ (by rw [List.getD_eq_getElem?_getD, List.getElem?_eq_getElem (by have := HLM.out; omega)]; exact List.getElem_mem _)
      have bS : -16777216 ≤ ss.getD k 0 ∧ ss.getD k 0 ≤ 16777216 := HBS.out _ (by rw [List.getD_eq_getElem?_getD, List.getElem?_eq_getElem (by have := HLS.out; omega)]; exact List.getElem_mem _)
      have hst : jn ms ss (k + 1) = jn ms ss k ++ [ms.getD k 0 - ss.getD k 0 / 2 + ss.getD k 0, ms.getD k 0 - ss.getD k 0 / 2] := rfl
      have hJl := jn_length ms ss k
      generalize ms.getD k 0 = M at *
      generalize ss.getD k 0 = S at *
      have hq : ∀ w, Calls Try.prog 18 #[.int .i64 M, .int .i64 S] w fun e w' => e = .returned (.tuple #[.int .i64 (M - S / 2 + S), .int .i64 (M - S / 2)]) ∧ ∃ m, w' = w.drewN m := fun w => (midback_is M S (by omega) (by omega) w).mono fun e w' h => ⟨h.1, 0, h.2⟩
      generalize M - S / 2 + S = X at *
      generalize M - S / 2 = Y at *
      have hkn : (k : Int) < (n : Int) := by omega
      have hJd : Hid (∀ m, Jw w (wo.drewN m) (.slice (some ⟨gm, 0, none⟩) n cm) (.slice (some ⟨gs, 0, none⟩) n cs_) ms ss u6 (jn ms ss k)) := fun m => hA.out.later ⟨rfl, rfl, rfl, Nat.le_refl _, fun _ _ => rfl⟩
      have hst := Lib.hid hst
      obtain ⟨J, hJ⟩ : ∃ J, J = jn ms ss k := ⟨_, rfl⟩
      rw [← hJ] at hst hJd hJl
      have HQ := Lib.hid hq
      clear hfm hfs hm' hs' bM bS hA hJ
      go_upto_region 9 with (fail)
      go_quiet ((exact quiet_of (HQ.out _)))
      have hJn := Lib.hid (hJd.out nq)
      have hlen : Hid ((J.length + 2) * 8 ≤ 140737488355328) := by show _ ≤ _; omega
      have hlj : Hid (J.length + 2 = 2 * k + 2) := by show _ = _; omega
      clear hJd hJl HQ l0 l1
      generalize wo.drewN nq = W2 at *
      have ho2 : Hid (Own (W2.alloc (.cells #[.int .i64 X, .int .i64 Y] 3)) 3 .i64 u6 J) := hJn.out.own.below ((Below.refl _ _).alloc (Nat.le_refl _) _)
      have hc2 : Hid (∀ i, i < 2 → (W2.alloc (.cells #[.int .i64 X, .int .i64 Y] 3)).cell? ⟨W2.heap.size, i, none⟩ = some (.int .i64 ((fun i => if i = 0 then X else Y) i))) := fun i hi => by
        match i, hi with
        | 0, _ => exact cell_of_row _ _ 0 _ 3 (0, 0) (heap_alloc_new W2 _)
        | 1, _ => exact cell_of_row _ _ 1 _ 3 (0, 0) (heap_alloc_new W2 _)
      have hmap : (List.range 2).map (fun i => if i = 0 then X else Y) = [X, Y] := rfl
      have hfn : Hid (∀ g2 cap2 W6, Own W6 3 .i64 (.slice (some ⟨g2, 0, none⟩) (J ++ (List.range 2).map (fun i => if i = 0 then X else Y)).length cap2) (J ++ (List.range 2).map (fun i => if i = 0 then X else Y)) → Keep (W2.alloc (.cells #[.int .i64 X, .int .i64 Y] 3)) W6 (foot u6) → (g2 ∈ foot u6 ∨ (W2.alloc (.cells #[.int .i64 X, .int .i64 Y] 3)).heap.size ≤ g2) → Jw w W6 (.slice (some ⟨gm, 0, none⟩) n cm) (.slice (some ⟨gs, 0, none⟩) n cs_) ms ss (.slice (some ⟨g2, 0, none⟩) (J ++ (List.range 2).map (fun i => if i = 0 then X else Y)).length cap2) (jn ms ss (k + 1))) := fun g2 cap2 W6 ho hk hf => by
        rw [hst.out, ← hmap]
        exact (hJn.out.later ((Below.refl _ _).alloc (Nat.le_refl _) _)).push ho hk hf
      clear hmap hJn hst
      go_wp2_with (at_builtin; refine append_blk rfl _ _ 22 rfl Try.underlying22 u6 J W2.heap.size 2 2 (fun i => if i = 0 then X else Y) rfl rfl ho2.out hc2.out hlen.out (by omega) ?_; intro g3 c3 w3 ho3 hk3 hf3; have hN := Lib.hid (hfn.out g3 c3 w3 ho3 hk3 hf3); clear ho3 hk3 hf3)
      go_roundw
      case rel => exact ⟨k + 1, by omega, by go_num, by rw [List.length_append, List.length_map, List.length_range] at hN; exact hN⟩
      case measure => simp [intOf]; omega
    · obtain rfl : n = k := by omega
      have ho := Lib.hid hA.out.own
      have hbw := Lib.hid hA.out.below
      clear hA
      go_wp2
      go_ret2
      exact ⟨_, rfl, ho.out, hbw.out⟩
end Go.Proofs.Ythoemgiadadfcaa
