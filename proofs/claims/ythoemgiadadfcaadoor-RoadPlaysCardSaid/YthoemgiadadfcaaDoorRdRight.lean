/- What is wrong with acts, by the program and by the document: their walks. -/
import Derived.Test.YthoemgiadadfcaaDoorRdWrong
set_option linter.unusedVariables false
set_option linter.unusedSimpArgs false
namespace Go.Proofs.YthoemgiadadfcaaDoor
open Go.RowKit Go.Sort Rd
namespace Rd
def wrs : List Ac → Int
  | [] => 0
  | x :: l => if wrg x = 0 then wrs l else wrg x
theorem wrs_first : ∀ (l : List Ac) (k : Nat) (x : Ac), (∀ (j : Nat) (y : Ac), j < k → l[j]? = some y → wrg y = 0) → l[k]? = some x → wrg x ≠ 0 → wrs l = wrg x
  | [], _, _, _, h, _ => by simp at h
  | y :: l, 0, x, _, h, hx => by
    simp at h; subst h
    unfold wrs; rw [if_neg hx]
  | y :: l, k + 1, x, h0, h, hx => by
    unfold wrs
    rw [if_pos (h0 0 y (by omega) rfl)]
    exact wrs_first l k x (fun j z hj hz => h0 (j + 1) z (by omega) (by simpa using hz)) (by simpa using h) hx
theorem wrs_none : ∀ (l : List Ac), (∀ (j : Nat) (y : Ac), l[j]? = some y → wrg y = 0) → wrs l = 0
  | [], _ => rfl
  | y :: l, h => by
    unfold wrs
    rw [if_pos (h 0 y rfl)]
    exact wrs_none l (fun j z hz => h (j + 1) z (by simpa using hz))
theorem wrs_all : ∀ (l : List Ac), wrs l = 0 → ∀ x ∈ l, wrg x = 0
  | [], _, _, h => by cases h
  | y :: l, h, x, hx => by
    unfold wrs at h
    by_cases hy : wrg y = 0
    · rw [if_pos hy] at h
      rcases List.mem_cons.1 hx with rfl | hx
      · exact hy
      · exact wrs_all l h x hx
    · rw [if_neg hy] at h; exact absurd h hy
end Rd
/-- The act at a place, cell by cell. -/
theorem ac_cells {w : World} {g b : Nat} {x : Ac} (h : ∀ j u, (ac x)[j]? = some u → w.cell? ⟨g, b + j, none⟩ = some u) :
    w.cell? ⟨g, b, none⟩ = some (.string x.w) ∧ w.cell? ⟨g, b + 1, none⟩ = some (.int .i64 x.a) ∧ w.cell? ⟨g, b + 2, none⟩ = some (.int .i64 x.b) ∧ w.cell? ⟨g, b + 3, none⟩ = some (.int .i64 x.c) :=
  ⟨h 0 _ rfl, h 1 _ rfl, h 2 _ rfl, h 3 _ rfl⟩
set_option maxRecDepth 100000 in
set_option maxHeartbeats 1600000 in
theorem right_is (v : Value) (l : List Ac) (w : World) (h : Rr w 4 ac v l) (hn : l.length ≤ 100000) : Calls Tryd.prog 14 #[v] w fun e w' => e = .returned (.int .i64 (wrs l)) ∧ Below w.heap.size w w' := by
  obtain ⟨a, cap, rfl, hx⟩ := h
  have HX := Lib.hid (show Rr w 4 ac (.slice a l.length cap) l from ⟨a, cap, rfl, hx⟩)
  clear hx
  go_enter Tryd.func14, Tryd.ntmps14
  go_wp2
  go_loopw [8] (fun i wr => ∃ k : Nat, k ≤ l.length ∧ i = .int .i64 k ∧ (∀ (j : Nat) (y : Ac), j < k → l[j]? = some y → wrg y = 0) ∧ Below w.heap.size w wr) (fun i _ => l.length - (intOf i).toNat)
  case atStart => exact ⟨0, Nat.zero_le _, rfl, fun j _ hj => absurd hj (Nat.not_lt_zero _), Below.refl _ _⟩
  case round =>
    obtain ⟨k, hk, rfl, h0, hb⟩ := hrel
    have H0 := Lib.hid h0
    have HB := Lib.hid hb
    clear h0 hb
    by_cases hlt : k < l.length
    · obtain ⟨g, o, rfl, hg, x, hx, hc⟩ := (HX.out.below HB.out).at_ k hlt
      obtain ⟨c0, c1, c2, c3⟩ := ac_cells hc
      have HQ := Lib.hid (fun W => one_is x W)
      have HXK := Lib.hid hx
      clear hx hc
      by_cases hz : wrg x = 0
      · have HQ0 : Hid (∀ W, Calls Tryd.prog 20 #[.agg #[.string x.w, .int .i64 x.a, .int .i64 x.b, .int .i64 x.c]] W fun e w' => e = .returned (.int .i64 0) ∧ Below W.heap.size W w') := fun W => (HQ.out W).mono fun e w' h => by rw [hz] at h; exact h
        have HZ := Lib.hid hz
        clear hz HQ
        go_wp2_with (go_at_call 20; (with_reducible refine (HQ0.out _).mono ?_); rintro e w1 ⟨rfl, hb1⟩; clear HQ0)
        go_roundw
        case rel =>
          refine ⟨k + 1, by omega, by go_num, fun j y hj hy => ?_, HB.out.trans (((Below.refl _ wr).alloc (Nat.le_refl _) _ |>.trans (hb1.mono (by simp))).mono HB.out.size)⟩
          by_cases hjk : j = k
          · subst hjk
            have h9 := HXK.out
            rw [hy] at h9
            obtain rfl := Option.some.inj h9
            exact HZ.out
          · exact H0.out j y (by omega) hy
        case measure => simp [intOf]; omega
      · have HR : Hid (wrs l = wrg x) := wrs_first l k x H0.out HXK.out hz
        have hz0 : (wrg x != 0) = true := by simpa using hz
        clear hz
        go_wp2_with (go_at_call 20; (with_reducible refine (HQ.out _).mono ?_); rintro e w1 ⟨rfl, hb1⟩; clear HQ)
        go_ret
        exact ⟨by rw [HR.out]; rfl, HB.out.trans (((Below.refl _ wr).alloc (Nat.le_refl _) _ |>.trans (hb1.mono (by simp))).mono HB.out.size)⟩
    · have HR : Hid (wrs l = 0) := wrs_none l (fun j y hy => H0.out j y (by have := (List.getElem?_eq_some_iff.1 hy).1; omega) hy)
      go_wp2
      go_ret
      exact ⟨by rw [HR.out]; rfl, HB.out⟩
end Go.Proofs.YthoemgiadadfcaaDoor
