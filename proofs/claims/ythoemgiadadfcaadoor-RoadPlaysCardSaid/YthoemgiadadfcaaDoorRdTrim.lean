/- The deed that leaves a packet's first bytes: its walk. -/
import Derived.Test.YthoemgiadadfcaaDoorRdDrop
set_option linter.unusedVariables false
set_option linter.unusedSimpArgs false
namespace Go.Proofs.YthoemgiadadfcaaDoor
open Go.RowKit Go.Sort Rd
namespace Rd
def trimF (b : Int) (it : It) : It := if inn b (it.1.size + 1) then (it.1.extract 0 b.toNat, it.2) else it
def updL (i : Int) (f : It → It) (xs : List It) : List It := if inn i xs.length then xs.modify i.toNat f else xs
end Rd
theorem flat_set {α : Type} {k : Nat} {enc : α → List Value} (hk : ∀ x, (enc x).length = k) (x y : α) (j : Nat) (u : Value) (hj : j < k) (he : enc y = (enc x).set j u) : ∀ (xs : List α) (i : Nat), xs[i]? = some x →
    (xs.set i y).flatMap enc = (xs.flatMap enc).set (i * k + j) u
  | [], _, h => by simp at h
  | z :: xs, 0, h => by
    simp at h; subst h
    rw [List.set_cons_zero, List.flatMap_cons, List.flatMap_cons, Nat.zero_mul, Nat.zero_add, List.set_append_left _ _ (by rw [hk]; exact hj), he]
  | z :: xs, i + 1, h => by
    rw [List.set_cons_succ, List.flatMap_cons, List.flatMap_cons, List.set_append_right _ _ (by rw [hk, Nat.succ_mul]; omega), hk, show (i + 1) * k + j - k = i * k + j by rw [Nat.succ_mul]; omega,
      flat_set hk x y j u hj he xs i (by simpa using h)]
theorem Rw.stored {α : Type} {w : World} {e : TypeId} {k : Nat} {enc : α → List Value} {g n cap : Nat} {xs : List α} (hk : ∀ x, (enc x).length = k) (h : Rw w e k enc (.slice (some ⟨g, 0, none⟩) n cap) xs) (hl : xs.length = n)
    (i : Nat) (x y : α) (hx : xs[i]? = some x) (j : Nat) (u : Value) (hj : j < k) (he : enc y = (enc x).set j u) : Rw (w.setCell ⟨g, i * k + j, none⟩ u) e k enc (.slice (some ⟨g, 0, none⟩) n cap) (xs.set i y) := by
  unfold Rw
  rw [List.length_set, flat_set hk x y j u hj he xs i hx]
  unfold Rw at h
  rw [hl] at h ⊢
  exact (World.ownsRow.stored h (i * k + j) u).1
theorem modify_set {α : Type} (f : α → α) (xs : List α) (i : Nat) (x : α) (h : xs[i]? = some x) : xs.modify i f = xs.set i (f x) := by
  refine List.ext_getElem? fun j => ?_
  rw [List.getElem?_modify, List.getElem?_set]
  by_cases e : i = j
  · subst e; simp [h, (List.getElem?_eq_some_iff.1 h).1, (List.getElem?_eq_some_iff.1 h).2]
  · simp [e]
/-- A list that is turned in one place. -/
theorem Dd.upd {w w1 : World} {p : Nat} {g n cap : Nat} {xs : List It} (h : Lb w p (.slice (some ⟨g, 0, none⟩) n cap) xs) (hl : xs.length = n) (hb : Below w.heap.size w w1) (i : Nat) (x : It) (hx : xs[i]? = some x) (s : ByteArray) :
    Dd w (w1.setCell ⟨g, i * 2, none⟩ (.string s)) p (.slice (some ⟨g, 0, none⟩) n cap) (xs.set i (s, x.2)) := by
  have h1 := h.below hb
  have hpg : p ≠ g := fun e => h.out (by simp [foot_slice, e])
  refine ⟨_, ⟨?_, h1.own.stored lc_length hl i x (s, x.2) hx 0 (.string s) (by omega) rfl⟩, ?_, fun j hj => .inl hj⟩
  · rw [Below.heap_setCell _ _ _ _ hpg]; exact h1.box
  · exact (Keep.of_below hb _).trans (Keep.setCell _ _ _ _ (by simp [foot_slice]))
set_option maxRecDepth 100000 in
set_option maxHeartbeats 3200000 in
theorem trim_is (p : Nat) (v : Value) (xs : List It) (x : Ac) (w : World) (h : Lb w p v xs) (hn : xs.length ≤ 100000) (hsz : ∀ it ∈ xs, it.1.size ≤ 140737488355328) :
    Calls Tryd.prog 34 #[.pointer (some ⟨p, 0, none⟩), n3 x] w fun e w' => e = .returned (.tuple #[]) ∧ Dd w w' p v (updL x.a (trimF x.b) xs) := by
  obtain ⟨xw, xa, xb, xc⟩ := x
  obtain ⟨a, cap, hv⟩ := h.own.shape
  have hb1 : Below w.heap.size w (w.alloc (.cells #[.int .i64 xa, .int .i64 xb, .int .i64 xc] 27)) := (Below.refl _ _).alloc (Nat.le_refl _) _
  have hn1 : (w.alloc (.cells #[.int .i64 xa, .int .i64 xb, .int .i64 xc] 27)).heap[w.heap.size]? = some (.cells #[.int .i64 xa, .int .i64 xb, .int .i64 xc] 27 (0, 0)) := heap_alloc_new w _
  have l0 : (w.alloc (.cells #[.int .i64 xa, .int .i64 xb, .int .i64 xc] 27)).cell? ⟨w.heap.size, 0, none⟩ = some (.int .i64 xa) := cell_of_row _ _ 0 _ 27 (0, 0) hn1
  have l1 : (w.alloc (.cells #[.int .i64 xa, .int .i64 xb, .int .i64 xc] 27)).cell? ⟨w.heap.size, 1, none⟩ = some (.int .i64 xb) := cell_of_row _ _ 1 _ 27 (0, 0) hn1
  have l9 := (h.below hb1).cell
  rw [hv] at l9
  have hq := fun k => has_is p a xs.length cap xa ((w.alloc (.cells #[.int .i64 xa, .int .i64 xb, .int .i64 xc] 27)).drewN k) (by simpa using l9)
  have H := Lib.hid h
  have HB : Hid (∀ k, Below w.heap.size w ((w.alloc (.cells #[.int .i64 xa, .int .i64 xb, .int .i64 xc] 27)).drewN k)) := fun k => hb1.trans ⟨rfl, rfl, rfl, Nat.le_refl _, fun _ _ => rfl⟩
  show Calls Tryd.prog 34 #[.pointer (some ⟨p, 0, none⟩), .agg #[.int .i64 xa, .int .i64 xb, .int .i64 xc]] w _
  by_cases hi : inn xa xs.length
  · obtain ⟨i, rfl⟩ : ∃ i : Nat, xa = i := ⟨xa.toNat, by unfold inn at hi; omega⟩
    have hil : i < xs.length := by unfold inn at hi; omega
    obtain ⟨it, hit⟩ : ∃ it, xs[i]? = some it := ⟨xs[i], List.getElem?_eq_getElem hil⟩
    obtain ⟨g, cap', hv2, hcap⟩ := h.own.form (by omega)
    rw [hv] at hv2
    obtain ⟨rfl, rfl⟩ : a = some ⟨g, 0, none⟩ ∧ cap' = cap := by injection hv2 with e1 e2 e3; exact ⟨e1, e3.symm⟩
    subst hv
    have hL1 := h.below hb1
    have ls : (w.alloc (.cells #[.int .i64 (i : Nat), .int .i64 xb, .int .i64 xc] 27)).cell? ⟨g, i * 2, none⟩ = some (.string it.1) := hL1.own.cell lc_length i it hit 0 (.string it.1) rfl
    have hfr := hL1.own.free (i * 2)
    have hss := hsz it (List.mem_of_getElem? hit)
    have Hit := Lib.hid hit
    clear hL1 h hsz
    have HS : Hid (updL i (trimF xb) xs = xs.set i (trimF xb it)) := by show _ = _; unfold updL; rw [if_pos hi]; exact modify_set _ _ _ _ hit
    by_cases hj : inn xb (it.1.size + 1)
    · rw [decide_eq_true (show 0 ≤ (i : Int) ∧ (i : Int) < (xs.length : Int) from hi)] at hq
      obtain ⟨j, rfl⟩ : ∃ j : Nat, xb = j := ⟨xb.toNat, by unfold inn at hj; omega⟩
      have hjl : j ≤ it.1.size := by unfold inn at hj; omega
      have HT : Hid (trimF j it = (it.1.extract 0 j, it.2)) := by show _ = _; unfold trimF; rw [if_pos hj]; rfl
      clear hj hi hit
      go_enter Tryd.func34, Tryd.ntmps34
      go_wp2_with fail
      go_quiet ((exact Calls.quiet_of_same (hq _)))
      go_wp2_with fail
      clear hq
      refine wp_region_quiet_tail 18 (by kernel_rfl) (by kernel_rfl) ?_
      simp only [List.take_succ_cons, List.take_zero, List.drop_succ_cons, List.drop_zero]
      repeat (go_big_quiet_step (fail))
      refine wpQuiet_nil ?_
      intro W8 hw
      obtain ⟨nq2, rfl⟩ := hw
      go_wp2_with fail
      go_end0
      exact ⟨rfl, by rw [HS.out, HT.out]; exact Dd.upd H.out rfl (HB.out _) i it Hit.out _⟩
    · have HT : Hid (trimF xb it = it) := by show _ = _; unfold trimF; rw [if_neg hj]
      have HX : Hid (xs.set i it = xs) := by
        show _ = _
        obtain ⟨hlt, rfl⟩ := List.getElem?_eq_some_iff.1 hit
        exact List.set_getElem_self hlt
      rw [decide_eq_true (show 0 ≤ (i : Int) ∧ (i : Int) < (xs.length : Int) from hi)] at hq
      by_cases h0 : 0 ≤ xb
      · obtain ⟨j, rfl⟩ : ∃ j : Nat, xb = j := ⟨xb.toNat, by omega⟩
        have hjl : ¬ j ≤ it.1.size := fun h => hj (by unfold inn; omega)
        have hd : decide (j ≤ it.1.size) = false := decide_eq_false hjl
        clear hj hi hit
        go_enter Tryd.func34, Tryd.ntmps34
        go_wp2_with fail
        go_quiet ((exact Calls.quiet_of_same (hq _)))
        go_wp2_with fail
        go_end0
        exact ⟨rfl, by rw [HS.out, HT.out, HX.out]; exact Dd.same H.out (HB.out _)⟩
      · have hd : decide (0 ≤ xb) = false := decide_eq_false h0
        clear hj hi hit
        go_enter Tryd.func34, Tryd.ntmps34
        go_wp2_with fail
        go_quiet ((exact Calls.quiet_of_same (hq _)))
        go_wp2_with fail
        go_end0
        exact ⟨rfl, by rw [HS.out, HT.out, HX.out]; exact Dd.same H.out (HB.out _)⟩
  · rw [decide_eq_false (show ¬ (0 ≤ xa ∧ xa < (xs.length : Int)) from hi)] at hq
    have HS : Hid (updL xa (trimF xb) xs = xs) := by show _ = _; unfold updL; rw [if_neg hi]
    clear h l9
    go_enter Tryd.func34, Tryd.ntmps34
    go_wp2_with fail
    go_quiet ((exact Calls.quiet_of_same (hq _)))
    go_wp2_with fail
    go_end0
    exact ⟨rfl, by rw [HS.out]; exact Dd.same H.out (HB.out _)⟩
end Go.Proofs.YthoemgiadadfcaaDoor
