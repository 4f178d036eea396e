/- Which lists are looked at, and what is wrong with acts by the document: their walks. -/
import Derived.Test.YthoemgiadadfcaaDoorRdRight
set_option linter.unusedVariables false
set_option linter.unusedSimpArgs false
namespace Go.Proofs.YthoemgiadadfcaaDoor
open Go.RowKit Go.Sort Rd
namespace Rd
def st (s : ByteArray) : List Value := [.string s]
theorem st_length (s : ByteArray) : (st s).length = 1 := rfl
def Fw (l : List ByteArray) (a : List Ac) : Prop := l.length ≤ 60 ∧ (∀ s ∈ l, s.size ≤ 200) ∧ a.length ≤ 60 ∧ ∀ x ∈ a, x.w.size ≤ 100
instance (l : List ByteArray) (a : List Ac) : Decidable (Fw l a) := by unfold Fw; infer_instance
def fewB (l : List ByteArray) (a : List Ac) : Bool := decide (Fw l a)
theorem few_no (l : List ByteArray) (a : List Ac) (h : ¬ Fw l a) : fewB l a = false := decide_eq_false h
end Rd
theorem st_cell {w : World} {g o i : Nat} {s : ByteArray} (h : ∀ j u, (st s)[j]? = some u → w.cell? ⟨g, o + i * 1 + j, none⟩ = some u) : w.cell? ⟨g, o + i, none⟩ = some (.string s) := by
  have := h 0 _ rfl
  rwa [Nat.mul_one] at this
set_option maxRecDepth 100000 in
set_option maxHeartbeats 1600000 in
theorem wrong_is (v : Value) (l : List Ac) (w : World) (h : Rr w 4 ac v l) (hn : l.length ≤ 100000) : Calls Tryd.prog 10 #[v] w fun e w' => e = .returned (.int .i64 (wrs l)) ∧ Below w.heap.size w w' := by
  obtain ⟨a, cap, rfl, hx⟩ := h
  have HX := Lib.hid (show Rr w 4 ac (.slice a l.length cap) l from ⟨a, cap, rfl, hx⟩)
  clear hx
  go_enter Tryd.func10, Tryd.ntmps10
  go_wp2
  go_loopw [3] (fun i wr => ∃ k : Nat, k ≤ l.length ∧ i = .int .i64 k ∧ (∀ (j : Nat) (y : Ac), j < k → l[j]? = some y → wrg y = 0) ∧ Below w.heap.size w wr) (fun i _ => l.length - (intOf i).toNat)
  case atStart => exact ⟨0, Nat.zero_le _, rfl, fun j _ hj => absurd hj (Nat.not_lt_zero _), Below.refl _ _⟩
  case round =>
    obtain ⟨k, hk, rfl, h0, hb⟩ := hrel
    have H0 := Lib.hid h0
    have HB := Lib.hid hb
    clear h0 hb
    by_cases hlt : k < l.length
    · obtain ⟨g, o, rfl, hg, x, hx, hc⟩ := (HX.out.below HB.out).at_ k hlt
      obtain ⟨c0, c1, c2, c3⟩ := ac_cells hc
      have HQ := Lib.hid (fun W => refWrong_is x W)
      have HXK := Lib.hid hx
      clear hx hc
      by_cases hz : wrg x = 0
      · have HQ0 : Hid (∀ W, Calls Tryd.prog 18 #[.agg #[.string x.w, .int .i64 x.a, .int .i64 x.b, .int .i64 x.c]] W fun e w' => e = .returned (.int .i64 0) ∧ Below W.heap.size W w') := fun W => (HQ.out W).mono fun e w' h => by rw [hz] at h; exact h
        have HZ := Lib.hid hz
        clear hz HQ
        go_wp2_with (go_at_call 18; (with_reducible refine (HQ0.out _).mono ?_); rintro e w1 ⟨rfl, hb1⟩; clear HQ0)
        go_roundw
        case rel =>
          refine ⟨k + 1, by omega, by go_num, fun j y hj hy => ?_, HB.out.trans (hb1.mono HB.out.size)⟩
          by_cases hjk : j = k
          · subst hjk
            have h9 := HXK.out
            rw [hy] at h9
            obtain rfl := Option.some.inj h9
            exact HZ.out
          · exact H0.out j y (by omega) hy
        case measure => simp [intOf]; omega
      · have HR : Hid (wrs l = wrg x) := wrs_first l k x H0.out HXK.out hz
        have hz0 : (wrg x != 0) = true := by simpa using hz
        clear hz
        go_wp2_with (go_at_call 18; (with_reducible refine (HQ.out _).mono ?_); rintro e w1 ⟨rfl, hb1⟩; clear HQ)
        go_ret
        exact ⟨by rw [HR.out]; rfl, HB.out.trans (hb1.mono HB.out.size)⟩
    · have HR : Hid (wrs l = 0) := wrs_none l (fun j y hy => H0.out j y (by have := (List.getElem?_eq_some_iff.1 hy).1; omega) hy)
      go_wp2
      go_ret
      exact ⟨by rw [HR.out]; rfl, HB.out⟩
set_option maxRecDepth 100000 in
set_option maxHeartbeats 1600000 in
theorem few_is (v u : Value) (l : List ByteArray) (a : List Ac) (w : World) (h : Rr w 1 st v l) (h' : Rr w 4 ac u a) (hn : l.length ≤ 9223372036854775807) (hn' : a.length ≤ 9223372036854775807) : Calls Tryd.prog 9 #[v, u] w fun e w' => e = .returned (.bool (fewB l a)) ∧ w' = w := by
  obtain ⟨p, cap, rfl, hx⟩ := h
  obtain ⟨q, cap2, rfl, hy⟩ := h'
  have HX := Lib.hid (show Rr w 1 st (.slice p l.length cap) l from ⟨p, cap, rfl, hx⟩)
  have HY := Lib.hid (show Rr w 4 ac (.slice q a.length cap2) a from ⟨q, cap2, rfl, hy⟩)
  clear hx hy
  go_enter Tryd.func9, Tryd.ntmps9
  go_wp2
  go_loop [5] (fun i => ∃ k : Nat, k ≤ l.length ∧ k ≤ 61 ∧ i = .int .i64 k ∧ (∀ (j : Nat) (y : ByteArray), j < k → l[j]? = some y → y.size ≤ 200)) (fun i => 61 - (intOf i).toNat)
  case atStart => exact ⟨0, Nat.zero_le _, by omega, rfl, fun j _ hj => absurd hj (Nat.not_lt_zero _)⟩
  case round =>
    obtain ⟨k, hk, hk61, rfl, h0⟩ := hrel
    have H0 := Lib.hid h0
    clear h0
    by_cases hlt : k < l.length ∧ k ≤ 60
    · obtain ⟨hlt, h60⟩ := hlt
      obtain ⟨g, o, rfl, hg, x, hx, hc⟩ := HX.out.at_ k hlt
      have c0 := st_cell hc
      have HXK := Lib.hid hx
      clear hx hc
      by_cases hz : x.size ≤ 200
      · have hz9 : ¬ (200 : Int) < (x.size : Int) := by omega
        go_wp2_with fail
        go_round
        case rel =>
          refine ⟨k + 1, by omega, by omega, by go_num, fun j y hj hy => ?_⟩
          by_cases hjk : j = k
          · subst hjk
            have h9 := HXK.out
            rw [hy] at h9
            obtain rfl := Option.some.inj h9
            exact hz
          · exact H0.out j y (by omega) hy
        case measure => simp [intOf]; omega
      · have HR : Hid (fewB l a = false) := few_no _ _ (fun h => hz (h.2.1 x (List.mem_of_getElem? HXK.out)))
        have hz9 : (200 : Int) < (x.size : Int) := by omega
        go_wp2_with fail
        go_ret
        exact ⟨by rw [HR.out]; rfl, rfl⟩
    · have HL : Hid (l.length ≤ 60 → ∀ s ∈ l, s.size ≤ 200) := fun h60 s hs => by
        obtain ⟨j, hj⟩ := List.getElem?_of_mem hs
        have := (List.getElem?_eq_some_iff.1 hj).1
        exact H0.out j s (by by_cases h9 : k < l.length; exact absurd ⟨h9, by omega⟩ hlt; omega) hj
      by_cases hkl : k < l.length
      all_goals
        first
        | (have hk6 : decide ((k : Int) ≤ 60) = false := decide_eq_false (fun h => hlt ⟨hkl, by omega⟩))
        | skip
        clear hlt
        clear H0
        go_wp2_with fail
        go_loop [6] (fun i => ∃ k : Nat, k ≤ a.length ∧ k ≤ 61 ∧ i = .int .i64 k ∧ (∀ (j : Nat) (y : Ac), j < k → a[j]? = some y → y.w.size ≤ 100)) (fun i => 61 - (intOf i).toNat)
        case atStart => exact ⟨0, Nat.zero_le _, by omega, rfl, fun j _ hj => absurd hj (Nat.not_lt_zero _)⟩
        case round =>
          obtain ⟨m, hm, hm61, rfl, h0⟩ := hrel
          have H0 := Lib.hid h0
          clear h0
          by_cases hmt : m < a.length ∧ m ≤ 60
          · obtain ⟨hmt, h60⟩ := hmt
            obtain ⟨g, o, rfl, hg, x, hx, hc⟩ := HY.out.at_ m hmt
            have c0 := (ac_cells hc).1
            have HXK := Lib.hid hx
            clear hx hc
            by_cases hz : x.w.size ≤ 100
            · have hz9 : ¬ (100 : Int) < (x.w.size : Int) := by omega
              go_wp2_with fail
              go_round
              case rel =>
                refine ⟨m + 1, by omega, by omega, by go_num, fun j y hj hy => ?_⟩
                by_cases hjk : j = m
                · subst hjk
                  have h9 := HXK.out
                  rw [hy] at h9
                  obtain rfl := Option.some.inj h9
                  exact hz
                · exact H0.out j y (by omega) hy
              case measure => simp [intOf]; omega
            · have HR : Hid (fewB l a = false) := few_no _ _ (fun h => hz (h.2.2.2 x (List.mem_of_getElem? HXK.out)))
              have hz9 : (100 : Int) < (x.w.size : Int) := by omega
              go_wp2_with fail
              go_ret
              exact ⟨by rw [HR.out]; rfl, rfl⟩
          · have HA : Hid (a.length ≤ 60 → ∀ x ∈ a, x.w.size ≤ 100) := fun h60 s hs => by
              obtain ⟨j, hj⟩ := List.getElem?_of_mem hs
              have := (List.getElem?_eq_some_iff.1 hj).1
              exact H0.out j s (by by_cases h9 : m < a.length; exact absurd ⟨h9, by omega⟩ hmt; omega) hj
            by_cases hma : m < a.length
            all_goals
              first
              | (have hm6 : decide ((m : Int) ≤ 60) = false := decide_eq_false (fun h => hmt ⟨hma, by omega⟩))
              | skip
              clear hmt H0
              by_cases hl6 : l.length ≤ 60
              · have hl7 : (l.length : Int) ≤ 60 := by omega
                by_cases ha6 : a.length ≤ 60
                · have ha7 : (a.length : Int) ≤ 60 := by omega
                  have HR : Hid (fewB l a = true) := decide_eq_true ⟨hl6, HL.out hl6, ha6, HA.out ha6⟩
                  go_wp2_with fail
                  go_ret
                  exact ⟨by rw [HR.out]; rfl, rfl⟩
                · have ha7 : decide ((a.length : Int) ≤ 60) = false := decide_eq_false (by omega)
                  have HR : Hid (fewB l a = false) := few_no _ _ (fun h => ha6 h.2.2.1)
                  go_wp2_with fail
                  go_ret
                  exact ⟨by rw [HR.out]; rfl, rfl⟩
              · have hl7 : decide ((l.length : Int) ≤ 60) = false := decide_eq_false (by omega)
                have HR : Hid (fewB l a = false) := few_no _ _ (fun h => hl6 h.1)
                go_wp2_with fail
                go_ret
                exact ⟨by rw [HR.out]; rfl, rfl⟩
end Go.Proofs.YthoemgiadadfcaaDoor
