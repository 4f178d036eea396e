/- Whether something of a list is too great: slices.ContainsFunc at the program's functions: the walks. -/
import Derived.Test.YthoemgiadadfcaaWsStage
set_option linter.unusedVariables false
set_option linter.unusedSimpArgs false
namespace Go.Proofs.Ythoemgiadadfcaa
open Go.RowKit Go.Sort Ws
/-- The value v reads as the numbers xs. -/
def Rd (w : World) (v : Value) (xs : List Int) : Prop :=
  (v = .slice none 0 0 ∧ xs = []) ∨ ∃ g cap, v = .slice (some ⟨g, 0, none⟩) xs.length cap ∧ xs.length ≤ cap ∧ g < w.heap.size ∧ ∀ i, i < xs.length → w.cell? ⟨g, i, none⟩ = some (.int .i64 (xs.getD i 0))
theorem Rd.below {w w' : World} {v : Value} {xs : List Int} (h : Rd w v xs) (hb : Below w.heap.size w w') : Rd w' v xs := by
  rcases h with h | ⟨g, cap, e, hc, hg, hcell⟩
  · exact .inl h
  · exact .inr ⟨g, cap, e, hc, Nat.lt_of_lt_of_le hg hb.size, fun i hi => (hb.cell (p := ⟨g, i, none⟩) hg).trans (hcell i hi)⟩
theorem Rd.own {w : World} {v : Value} {xs : List Int} (h : Own w 3 .i64 v xs) : Rd w v xs := by
  rcases Nat.eq_zero_or_pos xs.length with h0 | h0
  · obtain rfl : xs = [] := List.eq_nil_of_length_eq_zero h0
    rcases h.2 with ⟨h1, _⟩ | ⟨g, cap, cur, e, hb, hg, hn, hm, hs, ht⟩
    · exact .inl ⟨h1, rfl⟩
    · exact .inr ⟨g, cap, e, hn, (Array.getElem?_eq_some_iff.1 hg).1, fun i hi => by simp at hi⟩
  · obtain ⟨g, cap, e⟩ := h.form h0
    have hc : xs.length ≤ cap := by
      rcases h.2 with ⟨h1, _⟩ | ⟨g', cap', cur, e', hb, hg, hn, hm, hs, ht⟩
      · rw [e] at h1; cases h1
      · rw [e] at e'; injection e' with _ _ e'; omega
    subst e
    exact .inr ⟨g, cap, rfl, hc, h.lt g (by simp [foot, Value.ownBlock]), fun i hi => h.at_ i hi⟩
theorem Rd.blk {w : World} {b n : Nat} {t : TypeId} {f : Nat → Int} (h : Blk w b t n f) : Rd w (.slice (some ⟨b, 0, none⟩) n n) ((List.range n).map f) :=
  .inr ⟨b, n, by simp, by simp, h.lt, fun i hi => by
    rw [List.length_map, List.length_range] at hi
    rw [h.cell i hi]; simp [hi]⟩
set_option maxRecDepth 100000 in
theorem index_41 (v : Value) (xs : List Int) (w : World) (hr : Rd w v xs) (hl : xs.length ≤ 1099511627776) (hp : ∀ x ∈ xs, Calls Try.prog 41 #[.int .i64 x] w fun e w' => e = .returned (.bool false) ∧ w = w') :
    Calls Try.prog 25 #[v, .func (.func 41) #[] #[]] w fun e w' => e = .returned (.int .i64 (-1)) ∧ w' = w := by
  have HP := Lib.hid hp
  clear hp
  rcases hr with ⟨rfl, rfl⟩ | ⟨g, cap, rfl, hc, hg, hcell⟩
  · go_enter Try.func25, Try.ntmps25
    go_wp2
    go_loopw [8] (fun i wr => i = .int .i64 0 ∧ wr = w) (fun i _ => 0)
    case atStart => exact ⟨rfl, rfl⟩
    case round =>
      obtain ⟨rfl, rfl⟩ := hrel
      go_wp2
      go_ret
      exact ⟨rfl, rfl⟩
  · have HC := Lib.hid hcell
    obtain ⟨n, hn⟩ : ∃ n, n = xs.length := ⟨_, rfl⟩
    have HN := Lib.hid hn
    rw [← hn] at hl hc
    rw [← hn]
    clear hcell hn
    go_enter Try.func25, Try.ntmps25
    go_wp2
    go_loopw [8] (fun i wr => wr = w ∧ ∃ k : Nat, k ≤ n ∧ i = .int .i64 k) (fun i _ => n - (intOf i).toNat)
    case atStart => exact ⟨rfl, 0, by omega, rfl⟩
    case round =>
      obtain ⟨rfl, k, hk, rfl⟩ := hrel
      by_cases hlt : k < n
      · have hkx : k < xs.length := by have := HN.out; omega
        have l1 := HC.out k hkx
        have q1 := HP.out (xs.getD k 0) (by rw [List.getD_eq_getElem?_getD, List.getElem?_eq_getElem hkx]; exact List.getElem_mem hkx)
        generalize xs.getD k 0 = x at *
        have hkn : (k : Int) < (n : Int) := by omega
        clear hkx
        go_wp2_with (go_at_call 41; (with_reducible refine q1.mono ?_); rintro e w8 ⟨rfl, h8⟩; subst h8; clear q1)
        go_roundw
        case rel => exact ⟨by first | trivial | rfl, k + 1, by omega, by go_num⟩
        case measure => simp [intOf]; omega
      · obtain rfl : k = n := by omega
        go_wp2
        go_ret
        exact ⟨rfl, rfl⟩
theorem contains_41 (v : Value) (xs : List Int) (w : World) (hr : Rd w v xs) (hl : xs.length ≤ 1099511627776) (hp : ∀ x ∈ xs, Calls Try.prog 41 #[.int .i64 x] w fun e w' => e = .returned (.bool false) ∧ w = w') :
    Calls Try.prog 13 #[v, .func (.func 41) #[] #[]] w fun e w' => e = .returned (.bool false) ∧ w' = w := by
  have q := (index_41 v xs w hr hl hp).mono (fun e w' h => (⟨h.1, h.2.symm⟩ : _ ∧ w = w'))
  clear hp hl
  go_enter Try.func13, Try.ntmps13
  go_wp2_with (go_at_call 25; (with_reducible refine q.mono ?_); rintro e w8 ⟨rfl, h8⟩; subst h8; clear q)
  go_ret
  exact ⟨rfl, rfl⟩
set_option maxRecDepth 100000 in
theorem index_26 (p : Nat) (v : Value) (xs : List Int) (w : World) (hr : Rd w v xs) (hl : xs.length ≤ 1099511627776) (hp : ∀ x ∈ xs, Calls Try.prog 26 #[.int .i64 x, .pointer (some ⟨p, 0, none⟩)] w fun e w' => e = .returned (.bool false) ∧ w = w') :
    Calls Try.prog 25 #[v, .func (.func 26) #[] #[.pointer (some ⟨p, 0, none⟩)]] w fun e w' => e = .returned (.int .i64 (-1)) ∧ w' = w := by
  have HP := Lib.hid hp
  clear hp
  rcases hr with ⟨rfl, rfl⟩ | ⟨g, cap, rfl, hc, hg, hcell⟩
  · go_enter Try.func25, Try.ntmps25
    go_wp2
    go_loopw [8] (fun i wr => i = .int .i64 0 ∧ wr = w) (fun i _ => 0)
    case atStart => exact ⟨rfl, rfl⟩
    case round =>
      obtain ⟨rfl, rfl⟩ := hrel
      go_wp2
      go_ret
      exact ⟨rfl, rfl⟩
  · have HC := Lib.hid hcell
    obtain ⟨n, hn⟩ : ∃ n, n = xs.length := ⟨_, rfl⟩
    have HN := Lib.hid hn
    rw [← hn] at hl hc
    rw [← hn]
    clear hcell hn
    go_enter Try.func25, Try.ntmps25
    go_wp2
    go_loopw [8] (fun i wr => wr = w ∧ ∃ k : Nat, k ≤ n ∧ i = .int .i64 k) (fun i _ => n - (intOf i).toNat)
    case atStart => exact ⟨rfl, 0, by omega, rfl⟩
    case round =>
      obtain ⟨rfl, k, hk, rfl⟩ := hrel
      by_cases hlt : k < n
      · have hkx : k < xs.length := by have := HN.out; omega
        have l1 := HC.out k hkx
        have q1 := HP.out (xs.getD k 0) (by rw [List.getD_eq_getElem?_getD, List.getElem?_eq_getElem hkx]; exact List.getElem_mem hkx)
        generalize xs.getD k 0 = x at *
        have hkn : (k : Int) < (n : Int) := by omega
        clear hkx
        go_wp2_with (go_at_call 26; (with_reducible refine q1.mono ?_); rintro e w8 ⟨rfl, h8⟩; subst h8; clear q1)
        go_roundw
        case rel => exact ⟨by first | trivial | rfl, k + 1, by omega, by go_num⟩
        case measure => simp [intOf]; omega
      · obtain rfl : k = n := by omega
        go_wp2
        go_ret
        exact ⟨rfl, rfl⟩
theorem contains_26 (p : Nat) (v : Value) (xs : List Int) (w : World) (hr : Rd w v xs) (hl : xs.length ≤ 1099511627776) (hp : ∀ x ∈ xs, Calls Try.prog 26 #[.int .i64 x, .pointer (some ⟨p, 0, none⟩)] w fun e w' => e = .returned (.bool false) ∧ w = w') :
    Calls Try.prog 13 #[v, .func (.func 26) #[] #[.pointer (some ⟨p, 0, none⟩)]] w fun e w' => e = .returned (.bool false) ∧ w' = w := by
  have q := (index_26 p v xs w hr hl hp).mono (fun e w' h => (⟨h.1, h.2.symm⟩ : _ ∧ w = w'))
  clear hp hl
  go_enter Try.func13, Try.ntmps13
  go_wp2_with (go_at_call 25; (with_reducible refine q.mono ?_); rintro e w8 ⟨rfl, h8⟩; subst h8; clear q)
  go_ret
  exact ⟨rfl, rfl⟩
set_option maxRecDepth 100000 in
theorem index_23 (p : Nat) (v : Value) (xs : List Int) (w : World) (hr : Rd w v xs) (hl : xs.length ≤ 1099511627776) (hp : ∀ x ∈ xs, Calls Try.prog 23 #[.int .i64 x, .pointer (some ⟨p, 0, none⟩)] w fun e w' => e = .returned (.bool false) ∧ w = w') :
    Calls Try.prog 25 #[v, .func (.func 23) #[] #[.pointer (some ⟨p, 0, none⟩)]] w fun e w' => e = .returned (.int .i64 (-1)) ∧ w' = w := by
  have HP := Lib.hid hp
  clear hp
  rcases hr with ⟨rfl, rfl⟩ | ⟨g, cap, rfl, hc, hg, hcell⟩
  · go_enter Try.func25, Try.ntmps25
    go_wp2
    go_loopw [8] (fun i wr => i = .int .i64 0 ∧ wr = w) (fun i _ => 0)
    case atStart => exact ⟨rfl, rfl⟩
    case round =>
      obtain ⟨rfl, rfl⟩ := hrel
      go_wp2
      go_ret
      exact ⟨rfl, rfl⟩
  · have HC := Lib.hid hcell
    obtain ⟨n, hn⟩ : ∃ n, n = xs.length := ⟨_, rfl⟩
    have HN := Lib.hid hn
    rw [← hn] at hl hc
    rw [← hn]
    clear hcell hn
    go_enter Try.func25, Try.ntmps25
    go_wp2
    go_loopw [8] (fun i wr => wr = w ∧ ∃ k : Nat, k ≤ n ∧ i = .int .i64 k) (fun i _ => n - (intOf i).toNat)
    case atStart => exact ⟨rfl, 0, by omega, rfl⟩
    case round =>
      obtain ⟨rfl, k, hk, rfl⟩ := hrel
      by_cases hlt : k < n
      · have hkx : k < xs.length := by have := HN.out; omega
        have l1 := HC.out k hkx
        have q1 := HP.out (xs.getD k 0) (by rw [List.getD_eq_getElem?_getD, List.getElem?_eq_getElem hkx]; exact List.getElem_mem hkx)
        generalize xs.getD k 0 = x at *
        have hkn : (k : Int) < (n : Int) := by omega
        clear hkx
        go_wp2_with (go_at_call 23; (with_reducible refine q1.mono ?_); rintro e w8 ⟨rfl, h8⟩; subst h8; clear q1)
        go_roundw
        case rel => exact ⟨by first | trivial | rfl, k + 1, by omega, by go_num⟩
        case measure => simp [intOf]; omega
      · obtain rfl : k = n := by omega
        go_wp2
        go_ret
        exact ⟨rfl, rfl⟩
theorem contains_23 (p : Nat) (v : Value) (xs : List Int) (w : World) (hr : Rd w v xs) (hl : xs.length ≤ 1099511627776) (hp : ∀ x ∈ xs, Calls Try.prog 23 #[.int .i64 x, .pointer (some ⟨p, 0, none⟩)] w fun e w' => e = .returned (.bool false) ∧ w = w') :
    Calls Try.prog 13 #[v, .func (.func 23) #[] #[.pointer (some ⟨p, 0, none⟩)]] w fun e w' => e = .returned (.bool false) ∧ w' = w := by
  have q := (index_23 p v xs w hr hl hp).mono (fun e w' h => (⟨h.1, h.2.symm⟩ : _ ∧ w = w'))
  clear hp hl
  go_enter Try.func13, Try.ntmps13
  go_wp2_with (go_at_call 25; (with_reducible refine q.mono ?_); rintro e w8 ⟨rfl, h8⟩; subst h8; clear q)
  go_ret
  exact ⟨rfl, rfl⟩
theorem held1_is (x : Int) (h1 : -1073741824 ≤ x) (h2 : x ≤ 1073741824) (w : World) : Calls Try.prog 41 #[.int .i64 x] w fun e w' => e = .returned (.bool false) ∧ w = w' := by
  have e1 : decide (x < -1073741824) = false := decide_eq_false (by omega)
  have e2 : decide (1073741824 < x) = false := decide_eq_false (by omega)
  go_enter Try.func41, Try.ntmps41
  go_wp2
  go_ret
  exact ⟨rfl, rfl⟩
theorem great1_is (m x : Int) (p : Nat) (hm : 0 ≤ m ∧ m ≤ 1073741824) (h1 : -m ≤ x) (h2 : x ≤ m) (w : World) (hc : w.cell? ⟨p, 0, none⟩ = some (.int .i64 m)) :
    Calls Try.prog 26 #[.int .i64 x, .pointer (some ⟨p, 0, none⟩)] w fun e w' => e = .returned (.bool false) ∧ w = w' := by
  have e1 : decide (x < -m) = false := decide_eq_false (by omega)
  have e2 : decide (m < x) = false := decide_eq_false (by omega)
  obtain ⟨m1, m2⟩ := hm
  go_enter Try.func26, Try.ntmps26
  go_wp2
  go_ret
  exact ⟨rfl, rfl⟩
theorem great2_is (m x : Int) (p : Nat) (hm : 0 ≤ m ∧ m ≤ 1073741824) (h1 : -m ≤ x) (h2 : x ≤ m) (w : World) (hc : w.cell? ⟨p, 0, none⟩ = some (.int .i64 m)) :
    Calls Try.prog 23 #[.int .i64 x, .pointer (some ⟨p, 0, none⟩)] w fun e w' => e = .returned (.bool false) ∧ w = w' := by
  have e1 : decide (x < -m) = false := decide_eq_false (by omega)
  have e2 : decide (m < x) = false := decide_eq_false (by omega)
  obtain ⟨m1, m2⟩ := hm
  go_enter Try.func23, Try.ntmps23
  go_wp2
  go_ret
  exact ⟨rfl, rfl⟩
/-- dct.Held, at small numbers. -/
theorem held_is (f : F) (hf : ∀ i, i < 32 → -1073741824 ≤ f i ∧ f i ≤ 1073741824) (w : World) : Calls Try.prog 28 #[.agg (iv 32 f)] w fun e w' => e = .returned (.bool true) ∧ Below w.heap.size w w' := by
  have hb := Blk.new w 47 32 f
  have q := (contains_41 (.slice (some ⟨w.heap.size, 0, none⟩) 32 32) _ (w.alloc (.cells (iv 32 f) 47)) (Rd.blk hb) (by simp) (fun x hx => by
    obtain ⟨i, hi, rfl⟩ := List.mem_map.1 hx
    have := hf i (List.mem_range.1 hi)
    exact held1_is _ this.1 this.2 _)).mono (fun e w' h => (⟨h.1, h.2.symm⟩ : _ ∧ w.alloc (.cells (iv 32 f) 47) = w'))
  have hW : Hid (Below w.heap.size w (w.alloc (.cells (iv 32 f) 47))) := (Below.refl _ _).alloc (Nat.le_refl _) _
  clear hb hf
  go_enter Try.func28, Try.ntmps28
  go_wp2_with (go_at_call 13; (with_reducible refine q.mono ?_); rintro e w8 ⟨rfl, h8⟩; subst h8; clear q)
  go_ret
  exact ⟨rfl, hW.out⟩
end Go.Proofs.Ythoemgiadadfcaa
