/- What is read is what is written of it: the walk of RoadOnly. -/
import Derived.Test.YthoemgiadadfcaaDoorRdText
import Derived.Test.YthoemgiadadfcaaDoorRdCounts
set_option linter.unusedVariables false
set_option linter.unusedSimpArgs false
namespace Go.Proofs.YthoemgiadadfcaaDoor
open Go.RowKit Go.Sort Rd
attribute [local go_sem] Oper.semAt_some
theorem wrs_zero : ∀ (l : List Ac), (∀ x ∈ l, wrg x = 0) → wrs l = 0
  | [], _ => rfl
  | x :: l, h => by
    unfold wrs
    rw [if_pos (h x (List.mem_cons_self ..))]
    exact wrs_zero l fun y hy => h y (List.mem_cons_of_mem _ hy)
theorem size_list (s : ByteArray) : s.data.toList.length = s.size := by rw [Array.length_toList]; rfl
set_option maxRecDepth 100000 in
set_option maxHeartbeats 1600000 in
theorem only_long (s : ByteArray) (w : World) (hm : Mx w) (hl : ¬ s.size ≤ 3000) :
    Calls Tryd.prog 7 #[.string s] w fun e w' => e = .returned (.bool true) ∧ Below w.heap.size w w' := by
  have HM := awake_at hm
  have HM2 := awake_at hm
  have hl9 : (3000 : Int) < (s.size : Int) := by omega
  clear hm
  go_enter Tryd.func7, Tryd.ntmps7
  go_wp2_with first
    | (go_at_call 8; (with_reducible refine (HM.out _ (Below.refl _ _)).mono ?_); rintro e w1 ⟨rfl, hb1⟩; have HB1 := Lib.hid hb1; clear hb1 HM)
    | (go_at_call 8; (with_reducible refine (HM2.out _ HB1.out).mono ?_); rintro e w3 ⟨rfl, hb2⟩; have HB9 := Lib.hid hb2; clear hb2)
  go_ret
  exact ⟨rfl, HB9.out⟩
set_option maxRecDepth 100000 in
set_option maxHeartbeats 1600000 in
theorem only_bad (s : ByteArray) (w : World) (hm : Mx w) (hl : s.size ≤ 3000) (he : (parseP s.data.toList).2.2 ≠ 0) :
    Calls Tryd.prog 7 #[.string s] w fun e w' => e = .returned (.bool true) ∧ Below w.heap.size w w' := by
  have HM := awake_at hm
  obtain ⟨h1, h2⟩ := parse_not _ (by rw [size_list]; exact hl) he
  obtain ⟨n, hn⟩ : ∃ n, n = (parseP s.data.toList).2.1 := ⟨_, rfl⟩
  obtain ⟨er, her⟩ : ∃ er, er = (parseP s.data.toList).2.2 := ⟨_, rfl⟩
  have HP : Hid (∀ w', Below w.heap.size w w' → Calls Tryd.prog 17 #[.string s] w' fun e w'' => ∃ a cap, e = .returned (.tuple #[.slice a 0 cap, .int .i64 (n : Nat), .int .i64 er]) ∧ Below w.heap.size w w'') := fun w' hb => (parse_is s w' (hm.below hb) (by omega)).mono fun e w'' h9 => by
    obtain ⟨v, rfl, hr, hb2⟩ := h9
    rw [h1] at hr
    obtain ⟨a, cap, rfl⟩ := hr.shape
    rw [hn, her]
    exact ⟨a, cap, rfl, hb.trans (hb2.mono hb.size)⟩
  rw [← hn] at h2
  rw [← her] at he
  have he9 : (er != 0) = true := by simpa using he
  have hl9 : ¬ (3000 : Int) < (s.size : Int) := by omega
  have h29 : (1 : Int) ≤ (n : Int) := by omega
  clear hm hn her h1 he
  go_enter Tryd.func7, Tryd.ntmps7
  go_wp2_with first
    | (go_at_call 8; (with_reducible refine (HM.out _ (Below.refl _ _)).mono ?_); rintro e w1 ⟨rfl, hb1⟩; have HB1 := Lib.hid hb1; clear hb1 HM)
    | (go_at_call 17; (with_reducible refine (HP.out _ HB1.out).mono ?_); rintro e w2 ⟨a2, c2, rfl, hb2⟩; have HB9 := Lib.hid hb2; clear hb2 HP)
  go_ret
  exact ⟨rfl, HB9.out⟩
set_option maxRecDepth 100000 in
set_option maxHeartbeats 1600000 in
theorem only_is (s : ByteArray) (w : World) (hm : Mx w) (hl : s.size ≤ 3000) (he : (parseP s.data.toList).2.2 = 0) :
    Calls Tryd.prog 7 #[.string s] w fun e w' => e = .returned (.bool true) ∧ Below w.heap.size w w' := by
  have HM := awake_at hm
  obtain ⟨h1, h2, h3, h4⟩ := parse_only _ (by rw [size_list]; exact hl) he
  obtain ⟨acts, hacts⟩ : ∃ acts, acts = (parseP s.data.toList).1 := ⟨_, rfl⟩
  have HP : Hid (∀ w', Below w.heap.size w w' → Calls Tryd.prog 17 #[.string s] w' fun e w'' => ∃ v, e = .returned (.tuple #[v, .int .i64 0, .int .i64 0]) ∧ Rr w'' 4 ac v acts ∧ Below w.heap.size w w'') := fun w' hb => (parse_is s w' (hm.below hb) (by omega)).mono fun e w'' h9 => by
    obtain ⟨v, rfl, hr, hb2⟩ := h9
    rw [h1, he]
    rw [← hacts] at hr
    exact ⟨v, rfl, hr.read ac_length, hb.trans (hb2.mono hb.size)⟩
  rw [← hacts] at h2 h3 h4
  have HWr : Hid (∀ w' v, Below w.heap.size w w' → Rr w' 4 ac v acts → Calls Tryd.prog 16 #[v] w' fun e w'' => e = .returned (.tuple #[.string s, .int .i64 0]) ∧ Below w.heap.size w w'') := fun w' v hb hr => (write_ok v acts w' hr (by omega) (wrs_zero _ h3)).mono fun e w'' h9 => by
    obtain ⟨rfl, hb2⟩ := h9
    rw [h2, str_data]
    exact ⟨rfl, hb.trans (hb2.mono hb.size)⟩
  have hl9 : ¬ (3000 : Int) < (s.size : Int) := by omega
  clear hm h1 h2 h3 h4 he hacts
  go_enter Tryd.func7, Tryd.ntmps7
  go_wp2_with first
    | (go_at_call 8; (with_reducible refine (HM.out _ (Below.refl _ _)).mono ?_); rintro e w1 ⟨rfl, hb1⟩; have HB1 := Lib.hid hb1; clear hb1 HM)
    | (go_at_call 17; (with_reducible refine (HP.out _ HB1.out).mono ?_); rintro e w2 ⟨v2, rfl, hr, hb2⟩; have HB2 := Lib.hid hb2; have HR2 := Lib.hid hr; clear hb2 hr HP)
    | (go_at_call 16; (with_reducible refine (HWr.out _ _ HB2.out HR2.out).mono ?_); rintro e w3 ⟨rfl, hb2⟩; have HB9 := Lib.hid hb2; clear hb2 HWr)
  go_ret
  exact ⟨rfl, HB9.out⟩
theorem roadOnly_walk (s : ByteArray) (w : World) (hs : s.size ≤ maxLen) (hm : Mx w) :
    Calls Tryd.prog 7 #[.string s] w fun e w' => e = .returned (.bool true) ∧ Below w.heap.size w w' := by
  by_cases hl : s.size ≤ 3000
  · by_cases he : (parseP s.data.toList).2.2 = 0
    · exact only_is s w hm hl he
    · exact only_bad s w hm hl he
  · exact only_long s w hm hl
end Go.Proofs.YthoemgiadadfcaaDoor
