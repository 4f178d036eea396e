/- Frames back to numbers: the walks of slices.Clone and lap.Samples. -/
import Derived.Test.YthoemgiadadfcaaWsFrames
import Derived.Test.YthoemgiadadfcaaWsBack
import Derived.Deep.RegionWith
import Derived.Laws.Cover3
set_option linter.unusedVariables false
set_option linter.unusedSimpArgs false
namespace Go.Proofs.Ythoemgiadadfcaa
open Go.RowKit Go.Sort Ws
set_option maxRecDepth 100000 in
set_option maxHeartbeats 1600000 in
theorem clone_is (g N cp : Nat) (f : F) (w : World) (h : Pf w g 47 (N * 32) f) (hN : 1 ≤ N) (hN2 : N ≤ 1000) :
    Calls Try.prog 19 #[.slice (some ⟨g, 0, none⟩) N cp] w fun e w' => ∃ g' cap, e = .returned (.slice (some ⟨g', 0, none⟩) N cap) ∧ N ≤ cap ∧ Fw w w' g' (N * 32) f := by
  obtain ⟨i0, hi, hzz⟩ := Option.map_eq_some_iff.1 info47
  simp only [Prod.mk.injEq] at hzz
  obtain ⟨hz0, hz1, hz2⟩ := hzz
  have hlaw := Lib.hid (And.intro hi (And.intro hz0 (And.intro hz1 hz2)))
  have H := Lib.hid h
  have hNN := Lib.hid (And.intro hN hN2)
  have heq : ∀ w, (binOp BinOp.eql 27 (.slice (some ⟨g, 0, none⟩) N cp) (.slice none 0 0)).run Try.prog w = .ok (.bool false) w := fun w => by
    simp only [binOp]
    simp [run_equal_slice_nil w 27 47 (some ⟨g, 0, none⟩) N cp Try.underlying27]
  clear h hi hz0 hz1 hz2 hN hN2
  go_enter Try.func19, Try.ntmps19
  go_upto_region 3 with (fail)
  have hown : Hid ((w.alloc (.cells #[] 47)).ownsRow w.heap.size 47 32 (.slice (some ⟨w.heap.size, 0, none⟩) 0 0) 0 []) :=
    ⟨rfl, .inr ⟨w.heap.size, 0, #[], rfl, Nat.le_refl _, heap_alloc_new w _, Nat.le_refl _, by simp [maxLen], rfl, rfl⟩⟩
  have hb1 : Hid (Below w.heap.size w (w.alloc (.cells #[] 47))) := (Below.refl _ _).alloc (Nat.le_refl _) _
  have hnews : Hid (∀ j u, (ivl (N * 32) f)[j]? = some u → (w.alloc (.cells #[] 47)).cell? ((⟨g, 0, none⟩ : Addr).add j) = some u) := fun j u hj => by
    have hjl : j < N * 32 := by
      have := (List.getElem?_eq_some_iff.1 hj).1
      rwa [ivl_length] at this
    rw [ivl_get _ _ j hjl] at hj
    obtain rfl := Option.some.inj hj
    have := (H.out.below hb1.out).cell j hjl
    rw [Addr.add_mid, Nat.zero_add]
    exact this
  have hone : Hid (∀ u ∈ ivl (N * 32) f, u.oneCell' = true) := fun u hu => by
    obtain ⟨j, hj, rfl⟩ := List.mem_map.1 hu
    rfl
  have hlen : Hid ((ivl (N * 32) f).length = N * 32) := ivl_length _ _
  have h63 : Hid (0 + N ≤ maxLen) := by show _ ≤ _; have := hNN.out; simp only [maxLen]; omega
  have hby : Hid ((0 + N) * 256 ≤ 140737488355328) := by show _ ≤ _; have := hNN.out; omega
  have hbase : Hid (w.heap.size ≤ (w.alloc (.cells #[] 47)).heap.size) := by show _ ≤ _; rw [World.size_alloc]; omega
  go_wp2_with (at_builtin; refine wpList_append_own_at _ rfl _ _ 27 rfl w.heap.size 47 i0 _ 32 256 Try.underlying27 hlaw.out.1 hlaw.out.2.1 hlaw.out.2.2.1 hlaw.out.2.2.2 rfl (by omega) (.slice (some ⟨w.heap.size, 0, none⟩) 0 0) 0 [] rfl hown.out ⟨g, 0, none⟩ N cp (ivl (N * 32) f) rfl hlen.out hnews.out hone.out h63.out hby.out hbase.out ?_; intro v1 w1 ho1 hg1 hn1 hat1; have HO1 := Lib.hid ho1; have HG1 := Lib.hid hg1; have HN1 := Lib.hid hn1; clear ho1 hg1 hn1 hat1)
  go_ret
  have ho := HO1.out
  rcases ho.2 with ⟨h1, h2⟩ | ⟨g', cap, cur, rfl, hbg, hgg, hnc, hcm, hsz, htk⟩
  · have := hNN.out; omega
  · rw [Nat.zero_add] at hnc ⊢
    refine ⟨g', cap, rfl, hnc, ⟨cur, hgg, fun i hi => ?_⟩, ?_, hbg⟩
    · rw [Nat.zero_add, List.nil_append] at htk
      have h3 : (ivl (N * 32) f)[i]? = some (.int .i64 (f i)) := ivl_get _ _ i hi
      rw [← htk, List.getElem?_take, if_pos hi] at h3
      simpa using h3
    · have hg := HG1.out
      exact hb1.out.trans ⟨hg.os, hg.tape, hg.output, hg.size, fun j hj => hg.block j (Nat.lt_of_lt_of_le hj hb1.out.size) (fun he => by injection he with he; have he2 : w.heap.size = j := (by first | exact he | exact he.symm); omega)⟩
end Go.Proofs.Ythoemgiadadfcaa
