/- A keyed order has each thing once: the law KeyedOrders: its walk. -/
import Derived.Test.YthmiomncgkmnoaaDoorKeyOnce
set_option linter.unusedVariables false
set_option linter.unusedSimpArgs false
namespace Go.Proofs.YthmiomncgkmnoaaDoor
open Go.RowKit Go.Sort Sip Kd
theorem once_range (n : Nat) : Once (List.range n) n := by
  have h : ∀ i, i < n → (List.range n).getD i 0 = i := fun i hi => by simp [List.getD_eq_getElem?_getD, List.getElem?_range hi]
  exact ⟨fun i hi => by rw [h i hi]; exact hi, fun i j hi hj e => by rw [h i hi, h j hj] at e; exact e⟩
theorem swp_get (l : List Nat) (i j : Nat) (hi : i < l.length) (hj : j < l.length) (m : Nat) : (Kd.swp l i j).getD m 0 = l.getD (if m = j then i else if m = i then j else m) 0 := by
  unfold Kd.swp
  simp only [List.getD_eq_getElem?_getD, List.getElem?_set, List.length_set]
  by_cases e : m = j
  · subst e; simp [hj]
  · rw [if_neg (fun h => e h.symm), if_neg e]
    by_cases e2 : m = i
    · subst e2; simp [hi]
    · rw [if_neg (fun h => e2 h.symm), if_neg e2]
theorem once_swp {l : List Nat} {n : Nat} (h : Once l n) (hl : l.length = n) (i j : Nat) (hi : i < n) (hj : j < n) : Once (Kd.swp l i j) n := by
  have hg := swp_get l i j (by omega) (by omega)
  refine ⟨fun m hm => ?_, fun a b ha hb e => ?_⟩
  · rw [hg]
    refine h.1 _ ?_
    split
    · exact hi
    · split
      · exact hj
      · exact hm
  · rw [hg, hg] at e
    have hs : ∀ m, m < n → (if m = j then i else if m = i then j else m) < n := fun m hm => by
      split
      · exact hi
      · split
        · exact hj
        · exact hm
    have := h.2 _ _ (hs a ha) (hs b hb) e
    split at this <;> split at this <;> (try split at this) <;> (try split at this) <;> omega
theorem once_ordK (f : Nat → Nat) (n : Nat) : ∀ i l, i < n → l.length = n → Once l n → Once (ordK f i l) n
  | 0, _, _, _, h => h
  | i + 1, l, hi, hl, h => by
    rw [ordK]
    exact once_ordK f n i _ (by omega) (by rw [swp_length]; exact hl) (once_swp h hl _ _ hi (Nat.lt_of_lt_of_le (Nat.mod_lt _ (by omega)) (by omega)))
theorem once_ord (kl : List Nat) (sg n : Nat) (hn : 1 ≤ n) : Once (ord kl sg n) n := once_ordK _ n (n - 1) _ (by omega) (by simp) (once_range n)
set_option maxRecDepth 100000 in
set_option maxHeartbeats 1600000 in
theorem keyedOrders_walk (kl : List Nat) (s n : Int) (w : World) (hk : kl.length = 16) (hb : Bytes kl) (hs : (Lit.int .u8 s).wf = true) (hn : (Lit.int .i64 n).wf = true) (hg : Signs w) :
    Calls Tryd.prog 9 #[.agg (keyV kl), .int .u8 s, .int .i64 n] w fun e w' => e = .returned (.bool true) ∧ Below w.heap.size w w' := by
  have h0 : Hid ((w.alloc (.cells (keyV kl) 23)).heap[w.heap.size]? = some (.cells (keyV kl) 23 (0, 0))) := heap_alloc_new w _
  have hw0 : Hid (Below w.heap.size w (w.alloc (.cells (keyV kl) 23))) := (Below.refl _ _).alloc (Nat.le_refl _) _
  have hG : Hid (Signs (w.alloc (.cells (keyV kl) 23))) := hg.below hw0.out
  have hsz := Lib.hid (size23 kl hk)
  have ha := keyAwake_is (w.alloc (.cells (keyV kl) 23)) hG.out
  by_cases hr : 1 ≤ n ∧ n ≤ 256
  · obtain ⟨N, rfl⟩ : ∃ N : Nat, n = N := ⟨n.toNat, by omega⟩
    obtain ⟨S, rfl⟩ : ∃ S : Nat, s = S := ⟨s.toNat, by simp only [Lit.wf, Bool.and_eq_true, decide_eq_true_eq] at hs; have h1 : IntKind.u8.min = 0 := rfl; omega⟩
    have hS : S < 256 := by
      simp only [Lit.wf, Bool.and_eq_true, decide_eq_true_eq] at hs
      have h2 : IntKind.u8.max = 255 := rfl
      omega
    have ho := fun w hg => order_is kl hk hb S hS N (by omega) (by omega) w hg
    have hon := Lib.hid (once_ord kl S N (by omega))
    have hln := Lib.hid (ord_length kl S N)
    have hN1 : (1 : Int) ≤ (N : Int) := hr.1
    have hN2 : (N : Int) ≤ 256 := hr.2
    have HO := Lib.hid ho
    clear hk hb hs hn hg hr ho hS
    go_enter Tryd.func9, Tryd.ntmps9
    go_upto_region 1 with (fail)
    generalize w.alloc (.cells (keyV kl) 23) = W at *
    obtain ⟨b, hb0⟩ : ∃ b, b = w.heap.size := ⟨_, rfl⟩
    rw [← hb0] at h0
    rw [← hb0]
    clear hb0
    go_upto_region 3 with (go_at_call 26; (with_reducible refine ha.mono ?_); rintro e w1 ⟨rfl, hb1⟩; have HB1 := Lib.hid hb1; clear hb1 ha)
    have h1 : Hid (w1.heap[b]? = some (.cells (keyV kl) 23 (0, 0))) := (HB1.out.block b (Array.getElem?_eq_some_iff.1 h0.out).1).trans h0.out
    have hq := HO.out w1 (hG.out.below HB1.out)
    have HBW : Hid (Below w.heap.size w w1) := hw0.out.trans (HB1.out.mono hw0.out.size)
    clear HO h0 hw0 hG HB1
    go_upto_region 4 with (first | (refine wpList_load_row rfl 23 (.tmp 3) rfl b rfl 23 (keyV kl) (0, 0) _ h1.out Tryd.underlying23 rfl hsz.out ?_) | (go_at_call 27; (with_reducible refine hq.mono ?_); rintro e w8 ⟨g, rfl, hr8, hb8, hn8⟩; have HR := Lib.hid (And.intro hr8 hb8); clear hr8 hb8 hn8 hq))
    have hq2 := once_is g N N (ord kl S N) (by omega) hon.out w8 HR.out.1.lt (fun i hi => by
      have := HR.out.1.at_ i (by rw [casts_length, hln.out]; exact hi)
      rw [casts_get] at this
      exact this)
    go_wp2_with (go_at_call 28; (with_reducible refine hq2.mono ?_); rintro e w9 ⟨rfl, hb9⟩; have HB9 := Lib.hid hb9; clear hb9 hq2)
    go_ret
    have b8 := HBW.out.trans (HR.out.2.mono HBW.out.size)
    exact ⟨rfl, b8.trans (HB9.out.mono b8.size)⟩
  · have ho := fun w => order_nil (keyV kl) s n (by omega) w
    have HO := Lib.hid ho
    clear hk hb hs hg ho
    by_cases hn1 : n < 1
    · clear hr
      go_enter Tryd.func9, Tryd.ntmps9
      go_upto_region 1 with (fail)
      generalize w.alloc (.cells (keyV kl) 23) = W at *
      obtain ⟨b, hb0⟩ : ∃ b, b = w.heap.size := ⟨_, rfl⟩
      rw [← hb0] at h0
      rw [← hb0]
      clear hb0
      go_upto_region 3 with (go_at_call 26; (with_reducible refine ha.mono ?_); rintro e w1 ⟨rfl, hb1⟩; have HB1 := Lib.hid hb1; clear hb1 ha)
      have h1 : Hid (w1.heap[b]? = some (.cells (keyV kl) 23 (0, 0))) := (HB1.out.block b (Array.getElem?_eq_some_iff.1 h0.out).1).trans h0.out
      have hq := HO.out w1
      have HBW : Hid (Below w.heap.size w w1) := hw0.out.trans (HB1.out.mono hw0.out.size)
      clear HO h0 hw0 hG HB1
      go_wp2_with (first | (refine wpList_load_row rfl 23 (.tmp 3) rfl b rfl 23 (keyV kl) (0, 0) _ h1.out Tryd.underlying23 rfl hsz.out ?_) | (go_at_call 27; (with_reducible refine hq.mono ?_); rintro e w8 ⟨rfl, hb8⟩; have HR := Lib.hid hb8; clear hb8 hq))
      go_ret
      exact ⟨rfl, HBW.out.trans (HR.out.mono HBW.out.size)⟩
    · have hn2 : 256 < n := by omega
      clear hr
      go_enter Tryd.func9, Tryd.ntmps9
      go_upto_region 1 with (fail)
      generalize w.alloc (.cells (keyV kl) 23) = W at *
      obtain ⟨b, hb0⟩ : ∃ b, b = w.heap.size := ⟨_, rfl⟩
      rw [← hb0] at h0
      rw [← hb0]
      clear hb0
      go_upto_region 3 with (go_at_call 26; (with_reducible refine ha.mono ?_); rintro e w1 ⟨rfl, hb1⟩; have HB1 := Lib.hid hb1; clear hb1 ha)
      have h1 : Hid (w1.heap[b]? = some (.cells (keyV kl) 23 (0, 0))) := (HB1.out.block b (Array.getElem?_eq_some_iff.1 h0.out).1).trans h0.out
      have hq := HO.out w1
      have HBW : Hid (Below w.heap.size w w1) := hw0.out.trans (HB1.out.mono hw0.out.size)
      clear HO h0 hw0 hG HB1
      go_wp2_with (first | (refine wpList_load_row rfl 23 (.tmp 3) rfl b rfl 23 (keyV kl) (0, 0) _ h1.out Tryd.underlying23 rfl hsz.out ?_) | (go_at_call 27; (with_reducible refine hq.mono ?_); rintro e w8 ⟨rfl, hb8⟩; have HR := Lib.hid hb8; clear hb8 hq))
      go_ret
      exact ⟨rfl, HBW.out.trans (HR.out.mono HBW.out.size)⟩
end Go.Proofs.YthmiomncgkmnoaaDoor
