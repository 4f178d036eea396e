/- What is written is read as it was: the walk of RoadBack. -/
import Derived.Test.YthoemgiadadfcaaDoorRdBackPure
import Derived.Test.YthoemgiadadfcaaDoorRdOnly
import Derived.Test.YthoemgiadadfcaaDoorEqRows
set_option linter.unusedVariables false
set_option linter.unusedSimpArgs false
namespace Go.Proofs.YthoemgiadadfcaaDoor
open Go.RowKit Go.Sort Rd
attribute [local go_sem] Oper.semAt_some
set_option maxRecDepth 100000 in
set_option maxHeartbeats 1600000 in
theorem back_no (u : Value) (acts : List Ac) (w : World) (h' : Rr w 4 ac u acts) (hn' : acts.length ≤ 9223372036854775807) (hm : Mx w) (hf : ¬ Fw [] acts) :
    Calls Tryd.prog 6 #[u] w fun e w' => e = .returned (.bool true) ∧ Below w.heap.size w w' := by
  have HQ := few_at (Rr.nil w 1 st) h' (by simp) hn' _ (few_no _ _ hf)
  have HM := awake_at hm
  have HM2 := awake_at hm
  clear h' hn' hf hm
  go_enter Tryd.func6, Tryd.ntmps6
  go_wp2_with first
    | (go_at_call 8; (with_reducible refine (HM.out _ (Below.refl _ _)).mono ?_); rintro e w1 ⟨rfl, hb1⟩; have HB1 := Lib.hid hb1; clear hb1 HM)
    | (go_at_call 9; (with_reducible refine (HQ.out _ HB1.out).mono ?_); rintro e w2 ⟨rfl, rfl⟩; clear HQ)
    | (go_at_call 8; (with_reducible refine (HM2.out _ HB1.out).mono ?_); rintro e w3 ⟨rfl, hb2⟩; have HB2 := Lib.hid hb2; clear hb2)
  go_ret
  exact ⟨rfl, HB2.out⟩
theorem of_gen' (acts : List Ac) (hn' : acts.length ≤ 100000) :
    Hid (∀ w' u, Rr w' 4 ac u acts → Calls Tryd.prog 12 #[u] w' fun e w'' => ∃ u', e = .returned u' ∧ Rr w'' 4 ac u' acts ∧ Below w'.heap.size w' w'') := fun w' u hu => (of_is u acts w' hu hn').mono fun e w'' h9 => by
  obtain ⟨u', rfl, h1, h2⟩ := h9
  exact ⟨u', rfl, h1.read ac_length, h2⟩
set_option maxRecDepth 100000 in
set_option maxHeartbeats 1600000 in
theorem back_wrong (u : Value) (acts : List Ac) (w : World) (h' : Rr w 4 ac u acts) (hm : Mx w) (hf : Fw [] acts) (hw : wrs acts ≠ 0) :
    Calls Tryd.prog 6 #[u] w fun e w' => e = .returned (.bool true) ∧ Below w.heap.size w w' := by
  have ha60 := hf.2.2.1
  have HQ := few_at (Rr.nil w 1 st) h' (by simp) (by omega) _ (few_yes hf)
  have HM := awake_at hm
  obtain ⟨er, her⟩ : ∃ er, er = wrs acts := ⟨_, rfl⟩
  have HO1 := of_gen' acts (by omega)
  have HO2 := of_gen' acts (by omega)
  have HWr : Hid (∀ w' v, Rr w' 4 ac v acts → Calls Tryd.prog 16 #[v] w' fun e w'' => e = .returned (.tuple #[.string ⟨#[]⟩, .int .i64 er]) ∧ Below w'.heap.size w' w'') := fun w' v hr => by rw [her]; exact write_bad v acts w' hr (by omega) hw
  have HRi : Hid (∀ w' v, Rr w' 4 ac v acts → Calls Tryd.prog 14 #[v] w' fun e w'' => e = .returned (.int .i64 er) ∧ Below w'.heap.size w' w'') := fun w' v hr => by rw [her]; exact right_is v acts w' hr (by omega)
  have hw0 : (er != 0) = true := by rw [her]; simpa using hw
  have HA := Lib.hid h'
  clear h' hf hm hw her
  go_enter Tryd.func6, Tryd.ntmps6
  go_wp2_with first
    | (go_at_call 8; (with_reducible refine (HM.out _ (Below.refl _ _)).mono ?_); rintro e w1 ⟨rfl, hb1⟩; have HB1 := Lib.hid hb1; clear hb1 HM)
    | (go_at_call 9; (with_reducible refine (HQ.out _ HB1.out).mono ?_); rintro e w2 ⟨rfl, rfl⟩; clear HQ)
    | (go_at_call 12; (with_reducible refine (HO1.out _ _ (HA.out.below HB1.out)).mono ?_); rintro e w4 ⟨u4, rfl, hu, hb⟩; have HB4 := Lib.hid (HB1.out.trans (hb.mono HB1.out.size)); have HU4 := Lib.hid hu; clear hb hu HO1)
    | (go_at_call 16; (with_reducible refine (HWr.out _ _ HU4.out).mono ?_); rintro e w5 ⟨rfl, hb⟩; have HB5 := Lib.hid (HB4.out.trans (hb.mono HB4.out.size)); clear hb HWr)
    | (go_at_call 12; (with_reducible refine (HO2.out _ _ (HA.out.below HB5.out)).mono ?_); rintro e w6 ⟨u6, rfl, hu, hb⟩; have HB6 := Lib.hid (HB5.out.trans (hb.mono HB5.out.size)); have HU6 := Lib.hid hu; clear hb hu HO2)
    | (go_at_call 14; (with_reducible refine (HRi.out _ _ HU6.out).mono ?_); rintro e w7 ⟨rfl, hb⟩; have HB7 := Lib.hid (HB6.out.trans (hb.mono HB6.out.size)); clear hb HRi)
  go_ret
  exact ⟨rfl, HB7.out⟩
theorem eq_n3 (a b c : Int) (w : World) : (Op.equalIn 10000 27 (.agg #[.int .i64 a, .int .i64 b, .int .i64 c]) (.agg #[.int .i64 a, .int .i64 b, .int .i64 c])).run Tryd.prog w = .ok true w := by
  have h := run_equalIn_list (P := Tryd.prog) (Value.int .i64) (d := 9999) Tryd.underlying27 [a, b, c] [a, b, c] rfl rfl w (by kernel_rfl) (by kernel_rfl) (fun a b => by
    rw [show (9999 : Nat) = 9998 + 1 from rfl, run_equalIn_int w 9998 3 .i64 .i64 a b Tryd.underlying3]
    congr 1)
  rw [decide_eq_true rfl] at h
  exact h
set_option maxRecDepth 100000 in
set_option maxHeartbeats 1600000 in
theorem back_is (u : Value) (acts : List Ac) (w : World) (h' : Rr w 4 ac u acts) (hm : Mx w) (hf : Fw [] acts) (hw : wrs acts = 0) :
    Calls Tryd.prog 6 #[u] w fun e w' => e = .returned (.bool true) ∧ Below w.heap.size w w' := by
  have ha60 := hf.2.2.1
  have HQ := few_at (Rr.nil w 1 st) h' (by simp) (by omega) _ (few_yes hf)
  have HM := awake_at hm
  have HO1 := of_gen' acts (by omega)
  have hall := wrs_all acts hw
  have HPW := Lib.hid (parse_write acts ha60 hall)
  have hlen := writeL_len acts hall
  obtain ⟨S, hS⟩ : ∃ S, S = str (writeL acts) := ⟨_, rfl⟩
  have HWr : Hid (∀ w' v, Rr w' 4 ac v acts → Calls Tryd.prog 16 #[v] w' fun e w'' => e = .returned (.tuple #[.string S, .int .i64 0]) ∧ Below w'.heap.size w' w'') := fun w' v hr => by rw [hS]; exact write_ok v acts w' hr (by omega) hw
  have HP : Hid (∀ w', Below w.heap.size w w' → Calls Tryd.prog 17 #[.string S] w' fun e w'' => ∃ a cap, e = .returned (.tuple #[.slice a acts.length cap, .int .i64 0, .int .i64 0]) ∧ Rr w'' 4 ac (.slice a acts.length cap) acts ∧ Below w'.heap.size w' w'') := fun w' hb => (parse_is S w' (hm.below hb) (by rw [hS, str_size]; omega)).mono fun e w'' h9 => by
    obtain ⟨v, rfl, hr, hb2⟩ := h9
    rw [hS, str_toList, HPW.out] at hr ⊢
    obtain ⟨a, cap, rfl⟩ := hr.shape
    exact ⟨a, cap, rfl, hr.read ac_length, hb2⟩
  obtain ⟨pv, cv, rfl⟩ : ∃ p c, u = .slice p acts.length c := by obtain ⟨p, c, e, _⟩ := h'; exact ⟨p, c, e⟩
  have HA := Lib.hid h'
  clear h' hf hm hw hall hlen hS HPW
  go_enter Tryd.func6, Tryd.ntmps6
  go_wp2_with first
    | (go_at_call 8; (with_reducible refine (HM.out _ (Below.refl _ _)).mono ?_); rintro e w1 ⟨rfl, hb1⟩; have HB1 := Lib.hid hb1; clear hb1 HM)
    | (go_at_call 9; (with_reducible refine (HQ.out _ HB1.out).mono ?_); rintro e w2 ⟨rfl, rfl⟩; clear HQ)
    | (go_at_call 12; (with_reducible refine (HO1.out _ _ (HA.out.below HB1.out)).mono ?_); rintro e w4 ⟨u4, rfl, hu, hb⟩; have HB4 := Lib.hid (HB1.out.trans (hb.mono HB1.out.size)); have HU4 := Lib.hid hu; clear hb hu HO1)
    | (go_at_call 16; (with_reducible refine (HWr.out _ _ HU4.out).mono ?_); rintro e w5 ⟨rfl, hb⟩; have HB5 := Lib.hid (HB4.out.trans (hb.mono HB4.out.size)); clear hb HWr)
    | (go_at_call 17; (with_reducible refine (HP.out _ HB5.out).mono ?_); rintro e w6 ⟨a6, c6, rfl, hr, hb⟩; have HB6 := Lib.hid (HB5.out.trans (hb.mono HB5.out.size)); have HP6 := Lib.hid hr; clear hb hr HP)
  have HA6 := Lib.hid (HA.out.below HB6.out)
  clear HA HU4 HB1 HB4 HB5
  go_loopw [8] (fun i wr => ∃ (k : Nat), k ≤ acts.length ∧ i = .int .i64 k ∧ Below w6.heap.size w6 wr) (fun i _ => acts.length - (intOf i).toNat)
  case atStart => exact ⟨0, Nat.zero_le _, rfl, Below.refl _ _⟩
  case round =>
    obtain ⟨k, hk, rfl, hbw⟩ := hrel
    have HBW := Lib.hid hbw
    clear hbw
    by_cases hlt : k < acts.length
    · obtain ⟨g, o, rfl, hg, x, hx, hc⟩ := (HA6.out.below HBW.out).at_ k hlt
      obtain ⟨g2, o2, rfl, hg2, y, hy, hc2⟩ := (HP6.out.below HBW.out).at_ k hlt
      rw [hx] at hy
      cases hy
      obtain ⟨xw, xa, xb, xc⟩ := x
      have q27 := fun w => eq_n3 xa xb xc w
      obtain ⟨c0, c1, c2, c3⟩ := ac_cells hc
      obtain ⟨d0, d1, d2, d3⟩ := ac_cells hc2
      clear hx hc hc2 hg hg2
      go_wp2_with fail
      refine wp_region_quiet_tail 23 (by kernel_rfl) (by kernel_rfl) ?_
      simp only [List.take_succ_cons, List.take_zero, List.drop_succ_cons, List.drop_zero]
      repeat (first | go_big_quiet_skip | go_big_quiet_step (fail))
      refine wpQuiet_nil ?_
      intro W8 hw
      obtain ⟨nq, rfl⟩ := hw
      go_wp2_with fail
      go_roundw
      case rel => exact ⟨k + 1, by omega, by go_num, HBW.out.trans ((below_drewN (Below.refl _ _) nq).mono HBW.out.size)⟩
      case measure => simp [intOf]; omega
    · go_wp2_with fail
      go_ret
      exact ⟨rfl, HB6.out.trans (HBW.out.mono HB6.out.size)⟩
theorem roadBack_walk (u : Value) (acts : List Ac) (w : World) (h' : Rr w 4 ac u acts) (hn' : acts.length ≤ 9223372036854775807) (hm : Mx w) :
    Calls Tryd.prog 6 #[u] w fun e w' => e = .returned (.bool true) ∧ Below w.heap.size w w' := by
  by_cases hf : Fw [] acts
  · by_cases hw : wrs acts = 0
    · exact back_is u acts w h' hm hf hw
    · exact back_wrong u acts w h' hm hf hw
  · exact back_no u acts w h' hn' hm hf
end Go.Proofs.YthoemgiadadfcaaDoor
