/- Every list behind any acts is the document's: the walk of RoadPlays. -/
import Derived.Test.YthoemgiadadfcaaDoorRdRefDo
import Derived.Test.YthoemgiadadfcaaDoorRdParts
import Derived.Test.YthoemgiadadfcaaDoorRdBuild
set_option linter.unusedVariables false
set_option linter.unusedSimpArgs false
namespace Go.Proofs.YthoemgiadadfcaaDoor
open Go.RowKit Go.Sort Rd
attribute [local go_sem] Oper.semAt_some
set_option maxRecDepth 100000 in
set_option maxHeartbeats 1600000 in
theorem plays_no (v u : Value) (l : List ByteArray) (acts : List Ac) (w : World) (h : Rr w 1 st v l) (h' : Rr w 4 ac u acts) (hn : l.length ≤ 9223372036854775807) (hn' : acts.length ≤ 9223372036854775807) (hm : Mx w) (hf : ¬ Fw l acts) :
    Calls Tryd.prog 4 #[v, u] w fun e w' => e = .returned (.bool true) ∧ Below w.heap.size w w' := by
  have HQ := few_at h h' hn hn' _ (few_no _ _ hf)
  have HM := awake_at hm
  have HM2 := awake_at hm
  clear h h' hn hn' hf hm
  go_enter Tryd.func4, Tryd.ntmps4
  go_wp2_with first
    | (go_at_call 8; (with_reducible refine (HM.out _ (Below.refl _ _)).mono ?_); rintro e w1 ⟨rfl, hb1⟩; have HB1 := Lib.hid hb1; clear hb1 HM)
    | (go_at_call 9; (with_reducible refine (HQ.out _ HB1.out).mono ?_); rintro e w2 ⟨rfl, rfl⟩; clear HQ)
    | (go_at_call 8; (with_reducible refine (HM2.out _ HB1.out).mono ?_); rintro e w3 ⟨rfl, hb2⟩; have HB2 := Lib.hid hb2; clear hb2)
  go_ret
  exact ⟨rfl, HB2.out⟩
set_option maxRecDepth 100000 in
set_option maxHeartbeats 1600000 in
theorem plays_wrong (v u : Value) (l : List ByteArray) (acts : List Ac) (w : World) (h : Rr w 1 st v l) (h' : Rr w 4 ac u acts) (hm : Mx w) (hf : Fw l acts) (hw : wrs acts ≠ 0) :
    Calls Tryd.prog 4 #[v, u] w fun e w' => e = .returned (.bool true) ∧ Below w.heap.size w w' := by
  have ha60 := hf.2.2.1
  have HQ := few_at h h' (by have := hf.1; omega) (by omega) _ (few_yes hf)
  have HM := awake_at hm
  obtain ⟨er, her⟩ : ∃ er, er = wrs acts := ⟨_, rfl⟩
  have HO1 := of_gen acts (by omega)
  have HO2 := of_gen acts (by omega)
  have HO3 := of_gen acts (by omega)
  have HD : Hid (∀ w' v u, Rr w' 4 ac u acts → Calls Tryd.prog 11 #[v, u] w' fun e w'' => e = .returned (.tuple #[.slice none 0 0, .int .i64 er]) ∧ Below w'.heap.size w' w'') := fun w' v u hr => by rw [her]; exact do_bad v u l acts w' hr (by omega) hw
  have HT : Hid (∀ w' v u, Rr w' 4 ac u acts → Calls Tryd.prog 13 #[v, u] w' fun e w'' => e = .returned (.tuple #[.slice none 0 0, .int .i64 er]) ∧ Below w'.heap.size w' w'') := fun w' v u hr => by rw [her]; exact trace_bad v u l acts w' hr (by omega) hw
  have HRi : Hid (∀ w' v, Rr w' 4 ac v acts → Calls Tryd.prog 14 #[v] w' fun e w'' => e = .returned (.int .i64 er) ∧ Below w'.heap.size w' w'') := fun w' v hr => by rw [her]; exact right_is v acts w' hr (by omega)
  have HW := wrong_at h' (by omega) er her.symm
  have hw0 : (er != 0) = true := by rw [her]; simpa using hw
  have HA := Lib.hid h'
  clear h h' hf hm hw her
  go_enter Tryd.func4, Tryd.ntmps4
  go_wp2_with first
    | (go_at_call 8; (with_reducible refine (HM.out _ (Below.refl _ _)).mono ?_); rintro e w1 ⟨rfl, hb1⟩; have HB1 := Lib.hid hb1; clear hb1 HM)
    | (go_at_call 9; (with_reducible refine (HQ.out _ HB1.out).mono ?_); rintro e w2 ⟨rfl, rfl⟩; clear HQ)
    | (go_at_call 12; (with_reducible refine (HO1.out _ _ (HA.out.below HB1.out)).mono ?_); rintro e w4 ⟨u4, rfl, hu, hb⟩; have HB4 := Lib.hid (HB1.out.trans (hb.mono HB1.out.size)); have HU4 := Lib.hid hu; clear hb hu HO1)
    | (go_at_call 11; (with_reducible refine (HD.out _ _ _ HU4.out).mono ?_); rintro e w5 ⟨rfl, hb⟩; have HB5 := Lib.hid (HB4.out.trans (hb.mono HB4.out.size)); clear hb HD)
    | (go_at_call 12; (with_reducible refine (HO2.out _ _ (HA.out.below HB5.out)).mono ?_); rintro e w6 ⟨u6, rfl, hu, hb⟩; have HB6 := Lib.hid (HB5.out.trans (hb.mono HB5.out.size)); have HU6 := Lib.hid hu; clear hb hu HO2)
    | (go_at_call 13; (with_reducible refine (HT.out _ _ _ HU6.out).mono ?_); rintro e w7 ⟨rfl, hb⟩; have HB7 := Lib.hid (HB6.out.trans (hb.mono HB6.out.size)); clear hb HT)
    | (go_at_call 10; (with_reducible refine (HW.out _ HB7.out).mono ?_); rintro e w8 ⟨rfl, hb⟩; have HB8 := Lib.hid hb; clear hb HW)
    | (go_at_call 12; (with_reducible refine (HO3.out _ _ (HA.out.below HB8.out)).mono ?_); rintro e w9 ⟨u9, rfl, hu, hb⟩; have HB9 := Lib.hid (HB8.out.trans (hb.mono HB8.out.size)); have HU9 := Lib.hid hu; clear hb hu HO3)
    | (go_at_call 14; (with_reducible refine (HRi.out _ _ HU9.out).mono ?_); rintro e w10 ⟨rfl, hb⟩; have HB10 := Lib.hid (HB9.out.trans (hb.mono HB9.out.size)); clear hb HRi)
  go_ret
  exact ⟨rfl, HB10.out⟩
set_option maxRecDepth 100000 in
set_option maxHeartbeats 3200000 in
theorem plays_is (v u : Value) (l : List ByteArray) (acts : List Ac) (w : World) (h : Rr w 1 st v l) (h' : Rr w 4 ac u acts) (hm : Mx w) (hf : Fw l acts) (hw : wrs acts = 0) :
    Calls Tryd.prog 4 #[v, u] w fun e w' => e = .returned (.bool true) ∧ Below w.heap.size w w' := by
  have hl60 := hf.1
  have ha60 := hf.2.2.1
  have hsz := few_sz hf
  have HQ := few_at h h' (by omega) (by omega) _ (few_yes hf)
  have HM := awake_at hm
  have HO1 := of_gen acts (by omega)
  have HO2 := of_gen acts (by omega)
  have HO3 := of_gen acts (by omega)
  obtain ⟨L, hL⟩ : ∃ L, L = (runL l acts).map (·.1) := ⟨_, rfl⟩
  obtain ⟨N, hN⟩ : ∃ N, N = L.length := ⟨_, rfl⟩
  have hNl : (runL l acts).length = N := by rw [hN, hL, List.length_map]
  have hrun : (runL l acts).length ≤ 120 := by
    have := fold_le acts (initL l)
    rw [initL_length] at this
    unfold runL
    omega
  have HD := do_gen l acts (by omega) (by omega) hsz hw L hL.symm N hN.symm
  have HT := trace_gen l acts (by omega) (by omega) hsz hw _ rfl N (by unfold trL; rw [List.length_map, hNl])
  have HRi : Hid (∀ w' v, Rr w' 4 ac v acts → Calls Tryd.prog 14 #[v] w' fun e w'' => e = .returned (.int .i64 0) ∧ Below w'.heap.size w' w'') := fun w' v hr => by have := right_is v acts w' hr (by omega); rw [hw] at this; exact this
  have HW : Hid (∀ w' v, Rr w' 4 ac v acts → Calls Tryd.prog 10 #[v] w' fun e w'' => e = .returned (.int .i64 0) ∧ Below w'.heap.size w' w'') := fun w' v hr => by have := wrong_is v acts w' hr (by omega); rw [hw] at this; exact this
  have HWA := Lib.hid (wrs_all acts hw)
  have HRD : Hid (∀ k x w' v, acts[k]? = some x → Rr w' 2 lc v ((acts.take k).foldl (fun xs x => deedL x xs) (initL l)) → Calls Tryd.prog 15 #[v, .agg #[.string x.w, .int .i64 x.a, .int .i64 x.b, .int .i64 x.c]] w' (Rx w' ((acts.take (k + 1)).foldl (fun xs x => deedL x xs) (initL l)))) := fun k x w' v hx hr => by
    have hkl := fold_le (acts.take k) (initL l)
    rw [initL_length, List.length_take] at hkl
    rw [run_take _ _ _ _ hx]
    exact refDo_is v _ x w' hr (by omega) (fold_sz _ _ _ (initL_sz _ l hsz)) (wrg_ok (wrs_all acts hw x (List.mem_of_getElem? hx))).1
  have HGD := Lib.hid (runL_gd l acts)
  obtain ⟨pv, cv, rfl⟩ : ∃ p c, v = .slice p l.length c := by obtain ⟨p, c, e, _⟩ := h; exact ⟨p, c, e⟩
  obtain ⟨pu, cu, rfl⟩ : ∃ p c, u = .slice p acts.length c := by obtain ⟨p, c, e, _⟩ := h'; exact ⟨p, c, e⟩
  have HV := Lib.hid h
  have HA := Lib.hid h'
  have HLE := Lib.hid hL
  have HNL := Lib.hid hNl
  have hNn : N ≤ 120 := by omega
  clear h h' hm hf hw hL hN hsz hNl hrun
  go_enter Tryd.func4, Tryd.ntmps4
  go_wp2_with first
    | (go_at_call 8; (with_reducible refine (HM.out _ (Below.refl _ _)).mono ?_); rintro e w1 ⟨rfl, hb1⟩; have HB1 := Lib.hid hb1; clear hb1 HM)
    | (go_at_call 9; (with_reducible refine (HQ.out _ HB1.out).mono ?_); rintro e w2 ⟨rfl, rfl⟩; clear HQ)
    | (go_at_call 12; (with_reducible refine (HO1.out _ _ (HA.out.below HB1.out)).mono ?_); rintro e w4 ⟨u4, rfl, hu, hb⟩; have HB4 := Lib.hid (HB1.out.trans (hb.mono HB1.out.size)); have HU4 := Lib.hid hu; clear hb hu HO1)
    | (go_at_call 11; (with_reducible refine (HD.out _ _ _ (HV.out.below HB4.out) HU4.out).mono ?_); rintro e w5 ⟨a5, c5, rfl, hr, hb⟩; have HB5 := Lib.hid (HB4.out.trans (hb.mono HB4.out.size)); have HX5 := Lib.hid hr; clear hb hr HD)
    | (go_at_call 12; (with_reducible refine (HO2.out _ _ (HA.out.below HB5.out)).mono ?_); rintro e w6 ⟨u6, rfl, hu, hb⟩; have HB6 := Lib.hid (HB5.out.trans (hb.mono HB5.out.size)); have HU6 := Lib.hid hu; have HX6 := Lib.hid (HX5.out.below hb); clear hb hu HO2 HX5)
    | (go_at_call 13; (with_reducible refine (HT.out _ _ _ (HV.out.below HB6.out) HU6.out).mono ?_); rintro e w7 ⟨a7, c7, rfl, hr, hb⟩; have HB7 := Lib.hid (HB6.out.trans (hb.mono HB6.out.size)); have HT7 := Lib.hid hr; have HX7 := Lib.hid (HX6.out.below hb); clear hb hr HT HX6)
    | (go_at_call 10; (with_reducible refine (HW.out _ _ (HA.out.below HB7.out)).mono ?_); rintro e w8 ⟨rfl, hb⟩; have HB8 := Lib.hid (HB7.out.trans (hb.mono HB7.out.size)); have HX8 := Lib.hid (HX7.out.below hb); have HT8 := Lib.hid (HT7.out.below hb); clear hb HW HX7 HT7)
    | (go_at_call 12; (with_reducible refine (HO3.out _ _ (HA.out.below HB8.out)).mono ?_); rintro e w9 ⟨u9, rfl, hu, hb⟩; have HB9 := Lib.hid (HB8.out.trans (hb.mono HB8.out.size)); have HU9 := Lib.hid hu; have HX9 := Lib.hid (HX8.out.below hb); have HT9 := Lib.hid (HT8.out.below hb); clear hb hu HO3 HX8 HT8)
    | (go_at_call 14; (with_reducible refine (HRi.out _ _ HU9.out).mono ?_); rintro e w10 ⟨rfl, hb⟩; have HB10 := Lib.hid (HB9.out.trans (hb.mono HB9.out.size)); have HX10 := Lib.hid (HX9.out.below hb); have HT10 := Lib.hid (HT9.out.below hb); clear hb HRi HX9 HT9)
  have HV10 := Lib.hid (HV.out.below HB10.out)
  have HA10 := Lib.hid (HA.out.below HB10.out)
  clear HV HA HB1 HB4 HB5 HB6 HB7 HB8 HB9 HU4 HU6 HU9
  go_loopw [10, 11] (fun z i wr => ∃ k : Nat, k ≤ l.length ∧ i = .int .i64 k ∧ Rw wr 41 2 lc z (initL (l.take k)) ∧ Below w10.heap.size w10 wr ∧ ∀ j ∈ foot z, w10.heap.size ≤ j) (fun _ i _ => l.length - (intOf i).toNat)
  case atStart => exact ⟨0, Nat.zero_le _, rfl, Rw.nil .., Below.refl _ _, by simp [foot_nil]⟩
  case round =>
    obtain ⟨k, hk, rfl, ho, hbw, hf⟩ := hrel
    have HO := Lib.hid ho
    have HBW := Lib.hid hbw
    have HF := Lib.hid hf
    clear ho hbw hf
    by_cases hlt : k < l.length
    · obtain ⟨g, o, rfl, hg, s, hs, hc⟩ := (HV10.out.below HBW.out).at_ k hlt
      have c0 := st_cell hc
      have HXK := Lib.hid hs
      have HLN : Hid ((initL (l.take k)).length = k) := by show _ = _; rw [initL_length, List.length_take]; omega
      clear hs hc
      go_wp2_with (at_builtin; refine append_kb wr.heap.size rfl rfl _ _ 39 41 2 24 lc lc_length _ rfl (by omega) rfl Tryd.underlying39 info41 (by omega) u10 (initL (l.take k)) (s, (k : Int)) _ rfl (lc_one _) rfl rfl HO.out (by rw [HLN.out]; omega) ?_; intro g2 cap3 w2 ho2 hk2 hat; have HO9 := Lib.hid ho2; have HK9 := Lib.hid hk2; have HA9 := Lib.hid hat; clear ho2 hk2 hat)
      go_roundw
      case rel =>
        have e1 : initL (l.take k) ++ [(s, (k : Int))] = initL (l.take (k + 1)) := by
          rw [List.take_add_one, HXK.out]
          have := initL_snoc (l.take k) s
          rw [List.length_take, Nat.min_eq_left hk] at this
          exact this.symm
        have h9 : Rw w2 41 2 lc (.slice (some ⟨g2, 0, none⟩) ((initL (l.take k)).length + 1) cap3) (initL (l.take (k + 1))) := by rw [← e1]; have := HO9.out; rw [List.length_append] at this; exact this
        refine ⟨k + 1, by omega, by go_num, h9, HK9.out.below HBW.out (fun j hj => HF.out j hj), fun j hj => ?_⟩
        rw [foot_slice, List.mem_singleton] at hj
        subst hj
        rcases HA9.out with h8 | h8
        · exact HF.out _ h8
        · exact Nat.le_trans HBW.out.size h8
      case measure => simp [intOf]; omega
    · have HZ : Hid (Rr wr 2 lc u10 (initL l)) := by have h9 := HO.out.read lc_length; rw [List.take_of_length_le (by omega)] at h9; exact h9
      have HB11 := Lib.hid (HB10.out.trans (HBW.out.mono HB10.out.size))
      have HX11 := Lib.hid (HX10.out.below HBW.out)
      have HT11 := Lib.hid (HT10.out.below HBW.out)
      have HV11 := Lib.hid (HV10.out.below HBW.out)
      have HA11 := Lib.hid (HA10.out.below HBW.out)
      clear HO HBW HF HX10 HT10 HV10 HA10 HB10
      generalize wr = wz at *
      go_wp2_with fail
      go_loopw [10, 12] (fun z i wr => ∃ k : Nat, k ≤ acts.length ∧ i = .int .i64 k ∧ Rr wr 2 lc z ((acts.take k).foldl (fun xs x => deedL x xs) (initL l)) ∧ Below wz.heap.size wz wr) (fun _ i _ => acts.length - (intOf i).toNat)
      case atStart => exact ⟨0, Nat.zero_le _, rfl, HZ.out, Below.refl _ _⟩
      case round =>
        obtain ⟨k2, hk2, rfl, hz, hbw⟩ := hrel
        have HZ2 := Lib.hid hz
        have HBW := Lib.hid hbw
        clear hz hbw HZ
        by_cases hlt2 : k2 < acts.length
        · obtain ⟨g, o, rfl, hg, x, hx, hc⟩ := (HA11.out.below HBW.out).at_ k2 hlt2
          obtain ⟨c0, c1, c2, c3⟩ := ac_cells hc
          have HXK := Lib.hid hx
          clear hx hc
          go_wp2_with (go_at_call 15; (with_reducible refine (HRD.out k2 x _ _ HXK.out HZ2.out).mono ?_); rintro e w3 ⟨z3, rfl, hz3, hb3⟩; have HZ3 := Lib.hid hz3; have HB3 := Lib.hid hb3; clear hz3 hb3)
          go_roundw
          case rel => exact ⟨k2 + 1, by omega, by go_num, HZ3.out, HBW.out.trans (HB3.out.mono HBW.out.size)⟩
          case measure => simp [intOf]; omega
        · have hz9 : Rr wr 2 lc u10 (runL l acts) := by have h9 := HZ2.out; rw [List.take_of_length_le (by omega)] at h9; exact h9
          obtain ⟨az, cz, rfl⟩ : ∃ a c, u10 = .slice a N c := by obtain ⟨a, c, e, _⟩ := hz9; exact ⟨a, c, by rw [e, HNL.out]⟩
          have HZ9 := Lib.hid hz9
          have HB12 := Lib.hid (HB11.out.trans (HBW.out.mono HB11.out.size))
          have HX12 := Lib.hid (HX11.out.below HBW.out)
          have HT12 := Lib.hid (HT11.out.below HBW.out)
          have HV12 := Lib.hid (HV11.out.below HBW.out)
          clear hz9 HZ2 HBW HX11 HT11 HV11 HA11 HB11 HRD
          generalize wr = wy at *
          go_wp2_with fail
          go_loopw [13] (fun i wr => ∃ k : Nat, k ≤ N ∧ i = .int .i64 k ∧ Below wy.heap.size wy wr) (fun i _ => N - (intOf i).toNat)
          case atStart => exact ⟨0, Nat.zero_le _, rfl, Below.refl _ _⟩
          case round =>
            obtain ⟨k3, hk3, rfl, hbw⟩ := hrel
            have HBW := Lib.hid hbw
            clear hbw
            by_cases hlt3 : k3 < N
            · have hkr : k3 < (runL l acts).length := by rw [HNL.out]; exact hlt3
              have hLk : L[k3]? = some ((runL l acts)[k3]'hkr).1 := by rw [HLE.out, List.getElem?_map, List.getElem?_eq_getElem hkr]; rfl
              have hTk : (trL l (runL l acts))[k3]? = some (trI l ((runL l acts)[k3]'hkr)) := by unfold trL; rw [List.getElem?_map, List.getElem?_eq_getElem hkr]; rfl
              have hZk : (runL l acts)[k3]? = some ((runL l acts)[k3]'hkr) := List.getElem?_eq_getElem hkr
              have hgd := HGD.out _ (List.getElem_mem hkr)
              have hLl : k3 < L.length := by rw [HLE.out, List.length_map]; exact hkr
              obtain ⟨it, hit⟩ : ∃ it, it = (runL l acts)[k3]'hkr := ⟨_, rfl⟩
              rw [← hit] at hLk hTk hgd hZk
              obtain ⟨s, at_⟩ := it
              obtain ⟨at', rfl⟩ : ∃ n : Nat, at_ = (n : Int) := ⟨at_.toNat, by have := hgd.1; simp only at this ⊢; omega⟩
              have hat : at' < l.length := by have := hgd.2; simp only at this; omega
              obtain ⟨gx, ox, rfl, hgx, y, hy, hcy⟩ := (HX12.out.below HBW.out).at_ k3 hLl
              obtain ⟨gz, oz, rfl, hgz, z, hz, hcz⟩ := (HZ9.out.below HBW.out).at_ k3 hkr
              obtain ⟨gt, ot, rfl, hgt, t, ht, hct⟩ := (HT12.out.below HBW.out).at_ k3 (by unfold trL; rw [List.length_map]; exact hkr)
              obtain ⟨gl, ol, rfl, hgl, ls, hls, hcl⟩ := (HV12.out.below HBW.out).at_ at' hat
              rw [hLk] at hy
              rw [hZk] at hz
              rw [hTk] at ht
              cases hy; cases hz; cases ht
              have cy := st_cell hcy
              obtain ⟨cz0, cz1⟩ := lc_cells hcz
              obtain ⟨ct0, ct1⟩ := fm_cells hct
              have cl := st_cell hcl
              simp only [trI] at ct0 ct1
              rw [show l.getD (at' : Int).toNat ByteArray.empty = ls by rw [List.getD_eq_getElem?_getD, Int.toNat_natCast, hls]; rfl] at ct1
              obtain ⟨sm, hsm⟩ : ∃ sm, (s.toList == ls.toList) = sm := ⟨_, rfl⟩
              rw [hsm] at ct1
              clear hcy hcz hct hcl hLk hTk hZk hgd hit hls hgx hgz hgt hgl hkr hLl
              cases sm
              all_goals
                go_wp2_with fail
                refine wp_region_quiet_tail 44 (by kernel_rfl) (by kernel_rfl) ?_
                simp only [List.take_succ_cons, List.take_zero, List.drop_succ_cons, List.drop_zero]
                repeat (first | go_big_quiet_skip | go_big_quiet_step (fail))
                refine wpQuiet_nil ?_
                intro W8 hw
                obtain ⟨nq, rfl⟩ := hw
                go_wp2_with fail
                go_roundw
                case rel => exact ⟨k3 + 1, by omega, by go_num, HBW.out.trans ((below_drewN (Below.refl _ _) nq).mono HBW.out.size)⟩
                case measure => simp [intOf]; omega
            · go_wp2_with fail
              go_ret
              exact ⟨rfl, HB12.out.trans (HBW.out.mono HB12.out.size)⟩
theorem roadPlays_walk (v u : Value) (l : List ByteArray) (acts : List Ac) (w : World) (h : Rr w 1 st v l) (h' : Rr w 4 ac u acts) (hn : l.length ≤ 9223372036854775807) (hn' : acts.length ≤ 9223372036854775807) (hm : Mx w) :
    Calls Tryd.prog 4 #[v, u] w fun e w' => e = .returned (.bool true) ∧ Below w.heap.size w w' := by
  by_cases hf : Fw l acts
  · by_cases hw : wrs acts = 0
    · exact plays_is v u l acts w h h' hm hf hw
    · exact plays_wrong v u l acts w h h' hm hf hw
  · exact plays_no v u l acts w h h' hn hn' hm hf
end Go.Proofs.YthoemgiadadfcaaDoor
