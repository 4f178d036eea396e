/- A drop takes one away, twice adds one: the walk of RoadCounts. -/
import Derived.Test.YthoemgiadadfcaaDoorRdAwake
set_option linter.unusedVariables false
set_option linter.unusedSimpArgs false
namespace Go.Proofs.YthoemgiadadfcaaDoor
open Go.RowKit Go.Sort Rd
attribute [local go_sem] Oper.semAt_some
namespace Rd
def cntI (n : Nat) (x : Ac) : Nat := if inn x.a n then (if x.w = sDrop then n - 1 else if x.w = sTwice then n + 1 else n) else n
def cntL (n : Nat) (acts : List Ac) : Nat := acts.foldl cntI n
theorem cntI_is (x : Ac) (xs : List It) (h : xs.length < 8192) : (deedL x xs).length = cntI xs.length x := by
  unfold deedL cntI kd
  by_cases h0 : x.w = sDrop
  · simp only [h0, if_true, deedK, dropL_length]
  · by_cases h1 : x.w = sTwice
    · have h2 : ¬ sTwice = sDrop := by decide
      simp only [h1, h2, if_true, if_false, deedK, twiceL_length, h, and_true]
    · simp only [h0, h1, if_false]
      split
      · rw [show deedK 2 x xs = swapL x xs from rfl, swapL_length]; split <;> rfl
      · split
        · rw [show deedK 3 x xs = updL x.a (spoilF x.b x.c) xs from rfl, updL_length]; split <;> rfl
        · split
          · rw [show deedK 4 x xs = updL x.a (trimF x.b) xs from rfl, updL_length]; split <;> rfl
          · rw [show deedK 5 x xs = xs from rfl]; split <;> rfl
theorem cntL_is : ∀ (acts : List Ac) (xs : List It), xs.length + acts.length < 8192 → (acts.foldl (fun xs x => deedL x xs) xs).length = cntL xs.length acts
  | [], xs, _ => rfl
  | x :: acts, xs, h => by
    rw [List.length_cons] at h
    have h1 := deedL_le x xs
    rw [List.foldl_cons, cntL_is acts (deedL x xs) (by omega), cntI_is x xs (by omega)]
    rfl
theorem cntL_snoc (n : Nat) (acts : List Ac) (x : Ac) : cntL n (acts ++ [x]) = cntI (cntL n acts) x := by simp [cntL]
theorem cntI_le (n : Nat) (x : Ac) : cntI n x ≤ n + 1 := by
  unfold cntI
  repeat' split
  all_goals omega
theorem cntL_le : ∀ (acts : List Ac) (n : Nat), cntL n acts ≤ n + acts.length
  | [], n => Nat.le_refl _
  | x :: acts, n => by
    have h1 := cntI_le n x
    have h2 := cntL_le acts (cntI n x)
    rw [List.length_cons]
    show cntL (cntI n x) acts ≤ _
    omega
end Rd
theorem few_sz {l : List ByteArray} {a : List Ac} (h : Fw l a) : ∀ s ∈ l, s.size ≤ 140737488355328 := fun s hs => by have := h.2.1 s hs; omega
/-- few's answer, wherever the lists still lie. -/
theorem few_at {v u : Value} {l : List ByteArray} {acts : List Ac} {w : World} (h : Rr w 1 st v l) (h' : Rr w 4 ac u acts) (hn : l.length ≤ 9223372036854775807) (hn' : acts.length ≤ 9223372036854775807) (b : Bool) (hb : fewB l acts = b) :
    Hid (∀ w', Below w.heap.size w w' → Calls Tryd.prog 9 #[v, u] w' fun e w'' => e = .returned (.bool b) ∧ w'' = w') := fun w' hB => (few_is v u l acts w' (h.below hB) (h'.below hB) hn hn').mono fun e w'' h9 => by rw [hb] at h9; exact h9
theorem few_yes {l : List ByteArray} {a : List Ac} (h : Fw l a) : fewB l a = true := decide_eq_true h
theorem wrong_at {u : Value} {acts : List Ac} {w : World} (h' : Rr w 4 ac u acts) (hn' : acts.length ≤ 100000) (x : Int) (hx : wrs acts = x) :
    Hid (∀ w', Below w.heap.size w w' → Calls Tryd.prog 10 #[u] w' fun e w'' => e = .returned (.int .i64 x) ∧ Below w.heap.size w w'') := fun w' hB => (wrong_is u acts w' (h'.below hB) hn').mono fun e w'' h9 => by rw [hx] at h9; exact ⟨h9.1, hB.trans (h9.2.mono hB.size)⟩
theorem awake_at {w : World} (hm : Mx w) : Hid (∀ w', Below w.heap.size w w' → Calls Tryd.prog 8 #[] w' fun e w'' => e = .returned (.bool true) ∧ Below w.heap.size w w'') := fun w' hB => (awake_is w' (hm.below hB)).mono fun e w'' h9 => ⟨h9.1, hB.trans (h9.2.mono hB.size)⟩
set_option maxRecDepth 100000 in
set_option maxHeartbeats 1600000 in
theorem counts_no (v u : Value) (l : List ByteArray) (acts : List Ac) (w : World) (h : Rr w 1 st v l) (h' : Rr w 4 ac u acts) (hn : l.length ≤ 9223372036854775807) (hn' : acts.length ≤ 9223372036854775807) (hm : Mx w) (hf : ¬ Fw l acts) :
    Calls Tryd.prog 3 #[v, u] w fun e w' => e = .returned (.bool true) ∧ Below w.heap.size w w' := by
  have HQ := few_at h h' hn hn' _ (few_no _ _ hf)
  have HM := awake_at hm
  have HM2 := awake_at hm
  clear h h' hn hn' hf hm
  go_enter Tryd.func3, Tryd.ntmps3
  go_wp2_with first
    | (go_at_call 8; (with_reducible refine (HM.out _ (Below.refl _ _)).mono ?_); rintro e w1 ⟨rfl, hb1⟩; have HB1 := Lib.hid hb1; clear hb1 HM)
    | (go_at_call 9; (with_reducible refine (HQ.out _ HB1.out).mono ?_); rintro e w2 ⟨rfl, rfl⟩; clear HQ)
    | (go_at_call 8; (with_reducible refine (HM2.out _ HB1.out).mono ?_); rintro e w3 ⟨rfl, hb2⟩; have HB2 := Lib.hid hb2; clear hb2)
  go_ret
  exact ⟨rfl, HB2.out⟩
set_option maxRecDepth 100000 in
set_option maxHeartbeats 1600000 in
theorem counts_wrong (v u : Value) (l : List ByteArray) (acts : List Ac) (w : World) (h : Rr w 1 st v l) (h' : Rr w 4 ac u acts) (hm : Mx w) (hf : Fw l acts) (hw : wrs acts ≠ 0) :
    Calls Tryd.prog 3 #[v, u] w fun e w' => e = .returned (.bool true) ∧ Below w.heap.size w w' := by
  have HQ := few_at h h' (by have := hf.1; omega) (by have := hf.2.2.1; omega) _ (few_yes hf)
  have HW := wrong_at h' (by have := hf.2.2.1; omega) _ rfl
  have HM := awake_at hm
  have HM2 := awake_at hm
  have hw0 : (wrs acts != 0) = true := by simpa using hw
  clear h h' hf hm hw
  go_enter Tryd.func3, Tryd.ntmps3
  go_wp2_with first
    | (go_at_call 8; (with_reducible refine (HM.out _ (Below.refl _ _)).mono ?_); rintro e w1 ⟨rfl, hb1⟩; have HB1 := Lib.hid hb1; clear hb1 HM)
    | (go_at_call 9; (with_reducible refine (HQ.out _ HB1.out).mono ?_); rintro e w2 ⟨rfl, rfl⟩; clear HQ)
    | (go_at_call 10; (with_reducible refine (HW.out _ HB1.out).mono ?_); rintro e w3 ⟨rfl, hb2⟩; have HB2 := Lib.hid hb2; clear hb2)
    | (go_at_call 8; (with_reducible refine (HM2.out _ HB2.out).mono ?_); rintro e w3 ⟨rfl, hb2⟩; have HB3 := Lib.hid hb2; clear hb2)
  go_ret
  exact ⟨rfl, HB3.out⟩
/-- What Do leaves, of the law's own copy of the acts. -/
theorem do_at {v : Value} {l : List ByteArray} {acts : List Ac} {w : World} (h : Rr w 1 st v l) (hf : Fw l acts) (hw : wrs acts = 0) (n : Nat) (hn : (runL l acts).length = n) :
    Hid (∀ w' u, Below w.heap.size w w' → Rr w' 4 ac u acts → Calls Tryd.prog 11 #[v, u] w' fun e w'' => ∃ a cap, e = .returned (.tuple #[.slice a n cap, .int .i64 0]) ∧ Below w.heap.size w w'') := fun w' u hB hu => (do_ok v u l acts w' (h.below hB) hu (by have := hf.1; omega) (by have := hf.2.2.1; omega) (few_sz hf) hw).mono fun e w'' h9 => by
  obtain ⟨r, rfl, hr, hb⟩ := h9
  obtain ⟨a, cap, rfl⟩ := hr.shape
  rw [List.length_map, hn]
  exact ⟨a, cap, rfl, hB.trans (hb.mono hB.size)⟩
theorem of_at {u : Value} {acts : List Ac} {w : World} (h' : Rr w 4 ac u acts) (hn' : acts.length ≤ 100000) :
    Hid (∀ w', Below w.heap.size w w' → Calls Tryd.prog 12 #[u] w' fun e w'' => ∃ u', e = .returned u' ∧ Rr w'' 4 ac u' acts ∧ Below w.heap.size w w'') := fun w' hB => (of_is u acts w' (h'.below hB) hn').mono fun e w'' h9 => by
  obtain ⟨u', rfl, h1, h2⟩ := h9
  exact ⟨u', rfl, h1.read ac_length, hB.trans (h2.mono hB.size)⟩
set_option maxRecDepth 100000 in
set_option maxHeartbeats 3200000 in
theorem counts_is (v u : Value) (l : List ByteArray) (acts : List Ac) (w : World) (h : Rr w 1 st v l) (h' : Rr w 4 ac u acts) (hm : Mx w) (hf : Fw l acts) (hw : wrs acts = 0) :
    Calls Tryd.prog 3 #[v, u] w fun e w' => e = .returned (.bool true) ∧ Below w.heap.size w w' := by
  have HQ := few_at h h' (by have := hf.1; omega) (by have := hf.2.2.1; omega) _ (few_yes hf)
  have HW := wrong_at h' (by have := hf.2.2.1; omega) _ hw
  have HM := awake_at hm
  have hl60 := hf.1
  have ha60 := hf.2.2.1
  have HO := of_at h' (by omega)
  obtain ⟨N, hN⟩ : ∃ N, N = cntL l.length acts := ⟨_, rfl⟩
  have HD := do_at h hf hw N (by rw [hN]; unfold runL; rw [cntL_is _ _ (by rw [initL_length]; omega), initL_length])
  have HD0 := do_at (acts := []) h ⟨hf.1, hf.2.1, by simp, by simp⟩ rfl l.length (by unfold runL; exact initL_length l)
  obtain ⟨p, cap, rfl, hx⟩ := h
  obtain ⟨q, cap2, rfl, hy⟩ := h'
  have HY := Lib.hid (show Rr w 4 ac (.slice q acts.length cap2) acts from ⟨q, cap2, rfl, hy⟩)
  have HN := Lib.hid hN
  clear hm hf hw hx hy hN
  go_enter Tryd.func3, Tryd.ntmps3
  go_wp2_with first
    | (go_at_call 8; (with_reducible refine (HM.out _ (Below.refl _ _)).mono ?_); rintro e w1 ⟨rfl, hb1⟩; have HB1 := Lib.hid hb1; clear hb1 HM)
    | (go_at_call 9; (with_reducible refine (HQ.out _ HB1.out).mono ?_); rintro e w2 ⟨rfl, rfl⟩; clear HQ)
    | (go_at_call 10; (with_reducible refine (HW.out _ HB1.out).mono ?_); rintro e w3 ⟨rfl, hb2⟩; have HB2 := Lib.hid hb2; clear hb2 HW)
  go_loop [5, 6, 7] (fun n i _ => ∃ k : Nat, k ≤ acts.length ∧ i = .int .i64 k ∧ n = .int .i64 (cntL l.length (acts.take k))) (fun _ i _ => acts.length - (intOf i).toNat)
  case atStart => exact ⟨0, Nat.zero_le _, rfl, rfl⟩
  case round =>
    obtain ⟨k, hk, rfl, rfl⟩ := hrel
    by_cases hlt : k < acts.length
    · obtain ⟨g, o, rfl, hg, x, hx, hc⟩ := (HY.out.below HB2.out).at_ k hlt
      obtain ⟨c0, c1, c2, c3⟩ := ac_cells hc
      have hc1 : cntL l.length (acts.take k) ≤ 120 := by have := cntL_le (acts.take k) l.length; rw [List.length_take] at this; omega
      have HS : Hid (cntL l.length (acts.take (k + 1)) = cntI (cntL l.length (acts.take k)) x) := by
        rw [List.take_add_one, hx]
        exact cntL_snoc _ _ _
      generalize cntL l.length (acts.take k) = c at *
      clear hx hc
      by_cases h0 : 0 ≤ x.a
      · by_cases h1 : x.a < c
        · have hin : inn x.a c := ⟨h0, h1⟩
          by_cases hd : x.w = sDrop
          · have d1 : (x.w.toList == [100, 114, 111, 112]) = true := tl_yes hd
            have hc9 : 0 < c := by omega
            have d2 : (x.w.toList == [116, 119, 105, 99, 101]) = false := tl_no (s := x.w) (t := sTwice) (by rw [hd]; decide)
            have HE : Hid (cntI c x = c - 1) := by unfold Hid cntI; rw [if_pos hin, if_pos hd]
            clear hd hin
            go_wp2_with fail
            go_round
            case rel => exact ⟨k + 1, by omega, by go_num, by rw [HS.out, HE.out]; go_num⟩
            case measure => simp [intOf]; omega
          · have d1 : (x.w.toList == [100, 114, 111, 112]) = false := tl_no hd
            by_cases ht : x.w = sTwice
            · have d2 : (x.w.toList == [116, 119, 105, 99, 101]) = true := tl_yes ht
              have HE : Hid (cntI c x = c + 1) := by unfold Hid cntI; rw [if_pos hin, if_neg hd, if_pos ht]
              clear hd hin ht
              go_wp2_with fail
              go_round
              case rel => exact ⟨k + 1, by omega, by go_num, by rw [HS.out, HE.out]; go_num⟩
              case measure => simp [intOf]; omega
            · have d2 : (x.w.toList == [116, 119, 105, 99, 101]) = false := tl_no ht
              have HE : Hid (cntI c x = c) := by unfold Hid cntI; rw [if_pos hin, if_neg hd, if_neg ht]
              clear hd hin ht
              go_wp2_with fail
              go_round
              case rel => exact ⟨k + 1, by omega, by go_num, by rw [HS.out, HE.out]⟩
              case measure => simp [intOf]; omega
        · have HE : Hid (cntI c x = c) := by unfold Hid cntI; rw [if_neg (fun h => h1 h.2)]
          go_wp2_with fail
          go_round
          case rel => exact ⟨k + 1, by omega, by go_num, by rw [HS.out, HE.out]⟩
          case measure => simp [intOf]; omega
      · have HE : Hid (cntI c x = c) := by unfold Hid cntI; rw [if_neg (fun h => h0 h.1)]
        go_wp2_with fail
        go_round
        case rel => exact ⟨k + 1, by omega, by go_num, by rw [HS.out, HE.out]⟩
        case measure => simp [intOf]; omega
    · have he : cntL l.length (acts.take k) = N := by rw [HN.out, List.take_of_length_le (by omega)]
      rw [he]
      clear he
      go_wp2_with first
        | (go_at_call 12; (with_reducible refine (HO.out _ HB2.out).mono ?_); rintro e w4 ⟨u4, rfl, hu, hb⟩; have HB4 := Lib.hid hb; have HU := Lib.hid hu; clear hb hu)
        | (go_at_call 11; (with_reducible refine (HD.out _ _ HB4.out HU.out).mono ?_); rintro e w5 ⟨a5, c5, rfl, hb⟩; have HB5 := Lib.hid hb; clear hb HD)
        | (go_at_call 11; (with_reducible refine (HD0.out _ _ HB5.out (Rr.nil _ _ _)).mono ?_); rintro e w6 ⟨a6, c6, rfl, hb⟩; have HB6 := Lib.hid hb; clear hb)
      go_ret
      exact ⟨rfl, HB6.out⟩
theorem roadCounts_walk (v u : Value) (l : List ByteArray) (acts : List Ac) (w : World) (h : Rr w 1 st v l) (h' : Rr w 4 ac u acts) (hn : l.length ≤ 9223372036854775807) (hn' : acts.length ≤ 9223372036854775807) (hm : Mx w) :
    Calls Tryd.prog 3 #[v, u] w fun e w' => e = .returned (.bool true) ∧ Below w.heap.size w w' := by
  by_cases hf : Fw l acts
  · by_cases hw : wrs acts = 0
    · exact counts_is v u l acts w h h' hm hf hw
    · exact counts_wrong v u l acts w h h' hm hf hw
  · exact counts_no v u l acts w h h' hn hn' hm hf
end Go.Proofs.YthoemgiadadfcaaDoor
