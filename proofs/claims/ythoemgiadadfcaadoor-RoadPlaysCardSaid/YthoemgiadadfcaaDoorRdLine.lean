/- A line read: the walk. -/
import Derived.Test.YthoemgiadadfcaaDoorRdSplit
import Derived.Test.YthoemgiadadfcaaDoorRdOf
set_option linter.unusedVariables false
set_option linter.unusedSimpArgs false
namespace Go.Proofs.YthoemgiadadfcaaDoor
open Go.RowKit Go.Sort Rd
namespace Rd
def zA : Ac := ⟨⟨#[]⟩, 0, 0, 0⟩
def accL (w : ByteArray) (ns : List Int) : Ac := ⟨w, ns.getD 0 0, ns.getD 1 0, ns.getD 2 0⟩
def lineP (l : List UInt8) : Ac × Int :=
  if 5 ≤ kd (str ((sp (Lib.trimSuffix l [10])).headD [])) then (zA, 10)
  else if (sp (Lib.trimSuffix l [10])).tail.length ≠ nums (kd (str ((sp (Lib.trimSuffix l [10])).headD []))) ∨ Lib.hasSuffix l [10] = false then (zA, 3)
  else if ∃ p ∈ (sp (Lib.trimSuffix l [10])).tail, (numP p).2 = false then (zA, 3)
  else (accL (str ((sp (Lib.trimSuffix l [10])).headD [])) ((sp (Lib.trimSuffix l [10])).tail.map fun p => (numP p).1), wrg (accL (str ((sp (Lib.trimSuffix l [10])).headD [])) ((sp (Lib.trimSuffix l [10])).tail.map fun p => (numP p).1)))
end Rd
theorem cut_is (s : ByteArray) (w : World) (hs : s.size ≤ 100000) : Calls Tryd.prog 37 #[.string s, .string ⟨#[10]⟩] w fun e w' => e = .returned (.tuple #[.string (str (Lib.trimSuffix s.data.toList [10])), .bool (Lib.hasSuffix s.data.toList [10])]) ∧ w' = w := Tryd.strings_CutSuffix s ⟨#[10]⟩ w (by omega)
theorem results_cell_tmp {P : Program} {fn : Func} {p q : Tmp} {ty : TypeId} (h : fn.results = #[.cell p ty, .tmp q]) (tmps : Array Value) (w : World) (g : Nat) (t : TypeId) (cs : Array Value) (fr : Nat × Nat) (d : TypeDesc)
    (hp : tmps.getD p undef = .pointer (some ⟨g, 0, none⟩)) (v : Value) (hv : tmps.getD q undef = v) (hg : w.heap[g]? = some (.cells cs t fr))
    (hu : P.underlying ty = some d) (hd : (match d with | .struct _ | .array _ _ => true | _ => false) = true) (hi : (P.info? ty).map (·.size) = some cs.size) :
    (results fn tmps).run P w = .ok (.tuple #[.agg cs, v]) w := by
  have hp' : tmps[p]?.getD undef = .pointer (some ⟨g, 0, none⟩) := by simpa using hp
  have hv' : tmps[q]?.getD undef = v := by simpa using hv
  simp [results, h, hp', hv', asAddr, run_loadVar_row w g t ty cs fr d hg hu hd hi]
abbrev Z50 : Array Value := #[.string ⟨#[]⟩, .int .i64 0, .int .i64 0, .int .i64 0]
theorem z50_one : Z50.all (·.oneCell') = true := by simp [Value.oneCell']
theorem zero50 (w : World) : (zeroValue 50).run Tryd.prog w = .ok (.agg #[.string ⟨#[]⟩, .int .i64 0, .int .i64 0, .int .i64 0]) w := zero_val (by kernel_rfl) w
theorem nums_pos (k : Nat) (h : k < 5) : 1 ≤ nums k := by
  match k, h with
  | 0, _ | 1, _ | 2, _ | 3, _ | 4, _ => decide
theorem acc_cell {w : World} {pa : Nat} {x : Ac} (h : w.heap[pa]? = some (.cells (ac x).toArray 50 (0, 0))) (k : Nat) (hk : k < 3) : w.cell? ⟨pa, 1 + k, none⟩ = some (.int .i64 (at3 x k)) ∧ w.frozen? ⟨pa, 1 + k, none⟩ = false := by
  refine ⟨?_, by simp [World.frozen?, h]⟩
  rw [cell_of_row _ _ _ _ 50 (0, 0) h]
  match k, hk with
  | 0, _ => rfl
  | 1, _ => rfl
  | 2, _ => rfl
theorem acc_set (w : ByteArray) (ns : List Int) (v : Int) (k : Nat) (hl : ns.length = k) (hk : k < 3) : ((ac (accL w ns)).toArray).setIfInBounds (1 + k) (.int .i64 v) = (ac (accL w (ns ++ [v]))).toArray := by
  match k, hk, ns, hl with
  | 0, _, [], _ => rfl
  | 1, _, [a], _ => rfl
  | 2, _, [a, b], _ => rfl
set_option maxRecDepth 100000 in
set_option maxHeartbeats 3200000 in
theorem line_is (s : ByteArray) (w : World) (hm : Mx w) (hs : s.size ≤ 10000) : Calls Tryd.prog 27 #[.string s] w fun e w' => e = .returned (.tuple #[.agg #[.string (lineP s.data.toList).1.w, .int .i64 (lineP s.data.toList).1.a, .int .i64 (lineP s.data.toList).1.b, .int .i64 (lineP s.data.toList).1.c], .int .i64 (lineP s.data.toList).2]) ∧ Below w.heap.size w w' := by
  obtain ⟨l, hl⟩ : ∃ l, l = s.data.toList := ⟨_, rfl⟩
  rw [← hl]
  obtain ⟨T, hT⟩ : ∃ T, T = str (Lib.trimSuffix l [10]) := ⟨_, rfl⟩
  obtain ⟨en, hen⟩ : ∃ en, en = Lib.hasSuffix l [10] := ⟨_, rfl⟩
  have hq1 := fun W => cut_is s W (by omega)
  rw [← hl, ← hT, ← hen] at hq1
  have hTs : T.size ≤ 10000 := by
    rw [hT, str_size]
    have h1 : l.length = s.size := by rw [hl, Array.length_toList]; rfl
    unfold Lib.trimSuffix
    split
    · rw [List.length_take]; omega
    · omega
  have hb1 : Below w.heap.size w (w.alloc (.cells #[.string ⟨#[]⟩, .int .i64 0, .int .i64 0, .int .i64 0] 50)) := (Below.refl _ _).alloc (Nat.le_refl _) _
  have hq2 := split_is T _ (hm.below hb1) (by omega)
  have hTd : T.data.toList = Lib.trimSuffix l [10] := by rw [hT]; rfl
  rw [hTd] at hq2
  obtain ⟨ps, hps⟩ : ∃ ps, ps = sp (Lib.trimSuffix l [10]) := ⟨_, rfl⟩
  rw [← hps] at hq2
  have hne : ps ≠ [] := by rw [hps]; exact sp_ne _
  obtain ⟨p0, pt, hpp⟩ : ∃ p0 pt, ps = p0 :: pt := by cases ps with | nil => exact absurd rfl hne | cons a b => exact ⟨a, b, rfl⟩
  have HP : Hid (lineP l = if 5 ≤ kd (str p0) then (zA, 10) else if pt.length ≠ nums (kd (str p0)) ∨ en = false then (zA, 3) else if ∃ p ∈ pt, (numP p).2 = false then (zA, 3) else (accL (str p0) (pt.map fun p => (numP p).1), wrg (accL (str p0) (pt.map fun p => (numP p).1)))) := by
    show _ = _
    unfold lineP
    rw [← hps, ← hen, hpp]
    rfl
  obtain ⟨parts, hparts⟩ : ∃ parts : List ByteArray, parts = ps.map str := ⟨_, rfl⟩
  rw [← hparts] at hq2
  have hpl : parts.length = pt.length + 1 := by rw [hparts, List.length_map, hpp]; rfl
  have hp0 : parts[0]? = some (str p0) := by rw [hparts, hpp]; rfl
  have hptl : Hid (∀ i p, pt[i]? = some p → parts[i + 1]? = some (str p)) := fun i p h => by rw [hparts, hpp]; simp [h]
  have HQ1 := Lib.hid hq1
  have HQ2 := Lib.hid hq2
  have HM := Lib.hid hm
  have HB1 := Lib.hid hb1
  have hn1 : (w.alloc (.cells #[.string ⟨#[]⟩, .int .i64 0, .int .i64 0, .int .i64 0] 50)).heap[w.heap.size]? = some (.cells #[.string ⟨#[]⟩, .int .i64 0, .int .i64 0, .int .i64 0] 50 (0, 0)) := heap_alloc_new w _
  have HN1 := Lib.hid hn1
  have HPL := Lib.hid hpl
  have HP0 := Lib.hid hp0
  have hTl : (Lib.trimSuffix l [10]).length ≤ 10000 := by rw [← hTd, Array.length_toList]; exact hTs
  have hlen : parts.length ≤ 20000 := by
    rw [hparts, List.length_map, hps]
    have := sp_length (Lib.trimSuffix l [10])
    omega
  have hpsz : Hid (∀ p ∈ pt, (str p).size ≤ 100000) := fun p hp => by
    rw [str_size]
    have := sp_mem (Lib.trimSuffix l [10]) p (by rw [← hps, hpp]; exact List.mem_cons_of_mem _ hp)
    omega
  have HLEN := Lib.hid hlen
  clear hq1 hq2 hl hT hen hps hpp hparts hne hTd hb1 hm hn1 hpl hp0 hlen hTs hTl
  go_enter Tryd.func27, Tryd.ntmps27
  go_upto_region 3 with (first | (go_at_call 37; (with_reducible refine (HQ1.out _).mono ?_); rintro e w1 ⟨rfl, h9⟩; subst h9; clear HQ1) | (go_at_call 38; (with_reducible refine HQ2.out.mono ?_); rintro e W1 ⟨a, rfl, hv, hb2⟩; have HV := Lib.hid hv; clear HQ2 hv))
  obtain ⟨g, o, rfl, hgl, x0, hx0, hc0⟩ := HV.out.at_ 0 (by have := HPL.out; omega)
  have c0 : W1.cell? ⟨g, o, none⟩ = some (.string (str p0)) := by
    have h9 := HP0.out
    rw [hx0] at h9
    obtain rfl := Option.some.inj h9
    exact st_cell (i := 0) hc0
  have hB : Below w.heap.size w W1 := HB1.out.trans (hb2.mono HB1.out.size)
  have HB := Lib.hid hB
  have hnw : w.heap.size < W1.heap.size := Nat.lt_of_lt_of_le (Array.getElem?_eq_some_iff.1 HN1.out).1 hb2.size
  have hrow : W1.heap[w.heap.size]? = some (.cells #[.string ⟨#[]⟩, .int .i64 0, .int .i64 0, .int .i64 0] 50 (0, 0)) := (hb2.block _ (Array.getElem?_eq_some_iff.1 HN1.out).1).trans HN1.out
  have HROW := Lib.hid hrow
  have HMX : Hid (Mx W1) := HM.out.below hB
  clear hx0 hc0 hB hb2 hrow HN1 HB1 HM
  obtain ⟨n, hn⟩ : ∃ n, n = parts.length := ⟨_, rfl⟩
  rw [← hn] at HPL HV HLEN ⊢
  have HN := Lib.hid hn
  clear hn
  obtain ⟨xw, hxw⟩ : ∃ xw, xw = str p0 := ⟨_, rfl⟩
  rw [← hxw] at c0 HP HP0
  clear hxw
  have hn0 : 0 < n := by have := HPL.out; omega
  generalize hnb : w.heap.size = nb at *
  have HNB := Lib.hid hnb
  clear hnb
  obtain ⟨I, hI⟩ : ∃ I : (Nat → Bool) → Act → World → Prop, ∀ dn ac wc, I dn ac wc ↔ ∃ s7 s8 s21 s22 s23 s24 s25 s26 s27 s28, ac = ⟨#[.string s, undef, .pointer (some ⟨nb, 0, none⟩), .int .i64 0, .string T, .bool en, .slice (some ⟨g, o, none⟩) n n, s7, s8, undef, undef, undef, undef, undef, .tuple #[.string T, .bool en], .string s, .tuple #[.string T, .bool en], .string T, .bool en, .string T, .slice (some ⟨g, o, none⟩) n n, s21, s22, s23, s24, s25, s26, s27, s28, undef, undef, undef, undef, undef, undef, undef, undef, undef, undef, undef, undef, undef, undef, undef, undef, undef, undef, undef, undef, undef, undef, undef, undef, undef, undef, undef, undef, undef, undef, undef, undef, undef, undef, undef, undef, undef, undef, undef, undef, undef, undef, undef, undef], []⟩ ∧
    Dk W1 wc dn [(1, .slice (some ⟨g, o, none⟩) n n, s23), (2, .pointer (some ⟨g, o, none⟩), s24), (3, .string xw, s25), (4, .tuple #[dv (kd xw), .bool (decide (kd xw < 5))], s26), (5, .tuple #[dv (kd xw), .bool (decide (kd xw < 5))], s21), (6, dv (kd xw), s27), (7, .bool (decide (kd xw < 5)), s28), (10, .bool (decide (kd xw < 5)), s8)] (kd xw) 8 9 s22 s7 := ⟨_, fun _ _ _ => Iff.rfl⟩
  have HI := Lib.hid hI
  clear hI
  refine wp_region_inv (by kernel_rfl) (by kernel_rfl) I ?_ ?_ ?_
  · exact (HI.out _ _ _).2 ⟨_, _, _, _, _, _, _, _, _, _, rfl, Dk.start ..⟩
  · intro i o dn ac wc ho hd hdep hIn
    obtain ⟨s7, s8, s21, s22, s23, s24, s25, s26, s27, s28, rfl, hT⟩ := (HI.out _ _ _).1 hIn
    clear hIn
    rcases i with _ | _ | _ | _ | _ | _ | _ | _ | _ | _ | _ | i
    · obtain rfl := Option.some.inj ho
      have HT := Lib.hid hT
      clear hT hdep
      refine .inl ?_
      unfold Oper.wp
      go_simp
      (with_reducible refine (deeds_is wc).mono ?_); rintro e w1 ⟨r, rfl, hr, hm, hb⟩
      exact (HI.out _ _ _).2 ⟨_, _, _, _, _, _, _, _, _, _, rfl, HT.out.call (by decide) rfl hb hr hm⟩
    · obtain rfl := Option.some.inj ho
      have HT := Lib.hid hT
      clear hT hdep
      refine .inl ?_
      unfold Oper.wp
      go_simp
      exact (HI.out _ _ _).2 ⟨_, _, _, _, _, _, _, _, _, _, rfl, (HT.out).put 1 0 (.slice (some ⟨g, o, none⟩) n n) (by decide) rfl⟩
    · obtain rfl := Option.some.inj ho
      have e1 := hT.vals _ (List.Mem.head _) (hdep ⟨1, .data⟩ (by simp) rfl)
      dsimp only at e1
      subst e1
      have HT := Lib.hid hT
      clear hT hdep
      refine .inl ?_
      unfold Oper.wp
      go_simp
      exact (HI.out _ _ _).2 ⟨_, _, _, _, _, _, _, _, _, _, rfl, (HT.out).put 2 1 (.pointer (some ⟨g, o, none⟩)) (by decide) rfl⟩
    · obtain rfl := Option.some.inj ho
      have e2 := hT.vals _ (List.Mem.tail _ (List.Mem.head _)) (hdep ⟨2, .data⟩ (by simp) rfl)
      dsimp only at e2
      subst e2
      have hS := hT.below
      have l0 := (hS.cell (p := ⟨g, o, none⟩) hgl).trans c0
      clear hS
      have HT := Lib.hid hT
      clear hT hdep
      refine .inl ?_
      unfold Oper.wp
      go_simp
      exact (HI.out _ _ _).2 ⟨_, _, _, _, _, _, _, _, _, _, rfl, (HT.out).put 3 2 (.string xw) (by decide) rfl⟩
    · obtain rfl := Option.some.inj ho
      have e3 := hT.vals _ (List.Mem.tail _ (List.Mem.tail _ (List.Mem.head _))) (hdep ⟨3, .data⟩ (by simp) rfl)
      dsimp only at e3
      subst e3
      obtain ⟨r, rfl, _, hr⟩ := hT.mp (hdep ⟨0, .data⟩ (by simp) rfl)
      have hlk := look_is xw r wc true hr
      rw [if_pos rfl] at hlk
      clear hr
      have HT := Lib.hid hT
      clear hT hdep
      refine .inl ?_
      unfold Oper.wp
      go_simp
      exact (HI.out _ _ _).2 ⟨_, _, _, _, _, _, _, _, _, _, rfl, (HT.out).put 4 3 (.tuple #[dv (kd xw), .bool (decide (kd xw < 5))]) (by decide) rfl⟩
    · obtain rfl := Option.some.inj ho
      have e4 := hT.vals _ (List.Mem.tail _ (List.Mem.tail _ (List.Mem.tail _ (List.Mem.head _)))) (hdep ⟨4, .data⟩ (by simp) rfl)
      dsimp only at e4
      subst e4
      have HT := Lib.hid hT
      clear hT hdep
      refine .inl ?_
      unfold Oper.wp
      go_simp
      exact (HI.out _ _ _).2 ⟨_, _, _, _, _, _, _, _, _, _, rfl, (HT.out).put 5 4 (.tuple #[dv (kd xw), .bool (decide (kd xw < 5))]) (by decide) rfl⟩
    · obtain rfl := Option.some.inj ho
      have e5 := hT.vals _ (List.Mem.tail _ (List.Mem.tail _ (List.Mem.tail _ (List.Mem.tail _ (List.Mem.head _))))) (hdep ⟨5, .data⟩ (by simp) rfl)
      dsimp only at e5
      subst e5
      have HT := Lib.hid hT
      clear hT hdep
      refine .inl ?_
      unfold Oper.wp
      go_simp
      exact (HI.out _ _ _).2 ⟨_, _, _, _, _, _, _, _, _, _, rfl, (HT.out).put 6 5 (dv (kd xw)) (by decide) rfl⟩
    · obtain rfl := Option.some.inj ho
      have e5 := hT.vals _ (List.Mem.tail _ (List.Mem.tail _ (List.Mem.tail _ (List.Mem.tail _ (List.Mem.head _))))) (hdep ⟨5, .data⟩ (by simp) rfl)
      dsimp only at e5
      subst e5
      have HT := Lib.hid hT
      clear hT hdep
      refine .inl ?_
      unfold Oper.wp
      go_simp
      exact (HI.out _ _ _).2 ⟨_, _, _, _, _, _, _, _, _, _, rfl, (HT.out).put 7 6 (.bool (decide (kd xw < 5))) (by decide) rfl⟩
    · obtain rfl := Option.some.inj ho
      have hT' := (HI.out _ _ _).2 ⟨_, _, _, _, _, _, _, _, _, _, rfl, hT.make hd (by decide) rfl⟩
      clear hT hdep
      refine .inl ?_
      unfold Oper.wp
      go_simp
      exact hT'
    · obtain rfl := Option.some.inj ho
      have e6 := hT.vals _ (List.Mem.tail _ (List.Mem.tail _ (List.Mem.tail _ (List.Mem.tail _ (List.Mem.tail _ (List.Mem.head _)))))) (hdep ⟨6, .data⟩ (by simp) rfl)
      dsimp only at e6
      subst e6
      obtain ⟨p, rfl, ho, hT'⟩ := hT.fill (hdep ⟨8, .data⟩ (by simp) rfl) hd (by decide) rfl
      refine .inl (wp_store_row 72 (.tmp 7) (.tmp 27) rfl p (dc (kd xw)) rfl (dv_eq _) 72 _ ho (by kernel_rfl) (by rfl) (dc_one _) ?_)
      exact (HI.out _ _ _).2 ⟨_, _, _, _, _, _, _, _, _, _, rfl, hT'⟩
    · obtain rfl := Option.some.inj ho
      have e7 := hT.vals _ (List.Mem.tail _ (List.Mem.tail _ (List.Mem.tail _ (List.Mem.tail _ (List.Mem.tail _ (List.Mem.tail _ (List.Mem.head _))))))) (hdep ⟨7, .data⟩ (by simp) rfl)
      dsimp only at e7
      subst e7
      have HT := Lib.hid hT
      clear hT hdep
      refine .inl ?_
      unfold Oper.wp
      go_simp
      exact (HI.out _ _ _).2 ⟨_, _, _, _, _, _, _, _, _, _, rfl, (HT.out).put 10 7 (.bool (decide (kd xw < 5))) (by decide) rfl⟩
    · cases ho
  · intro dn ac wc hd hIn
    obtain ⟨s7, s8, s21, s22, s23, s24, s25, s26, s27, s28, rfl, hT⟩ := (HI.out _ _ _).1 hIn
    have e8 := hT.vals _ (List.Mem.tail _ (List.Mem.tail _ (List.Mem.tail _ (List.Mem.tail _ (List.Mem.tail _ (List.Mem.tail _ (List.Mem.tail _ (List.Mem.head _)))))))) (hd 10 (by decide))
    dsimp only at e8
    subst e8
    obtain ⟨pd, rfl, hpd, hpr, hpb⟩ := hT.done (hd 8 (by decide)) (hd 9 (by decide))
    clear HI hIn hT hd
    dsimp only
    have HDC := Lib.hid hpr
    have hrow2 := (hpb.block nb hnw).trans HROW.out
    have HROW2 := Lib.hid hrow2
    have HB2 : Hid (Below w.heap.size w wc) := by have h9 := HB.out.trans (hpb.mono (Nat.le_of_lt hnw)); rw [← HNB.out] at h9; exact h9
    have HV2 := Lib.hid (HV.out.below hpb)
    have hz50 := zero50
    have hle9 := HLEN.out
    have mp : wc.cell? ⟨pd, 0, none⟩ = some (.int .i64 (nums (kd xw))) := cell_of_row _ _ 0 _ 72 (0, 0) hpr
    have HC0 : Hid (wc.cell? ⟨g, o, none⟩ = some (.string xw)) := (hpb.cell (p := ⟨g, o, none⟩) hgl).trans c0
    have HGL : Hid (g < wc.heap.size) := Nat.lt_of_lt_of_le hgl hpb.size
    have hsz50 : (Tryd.prog.info? 50).map (·.size) = some 4 := by kernel_rfl
    have HSZ := Lib.hid hsz50
    clear hpr hpb HROW HB HMX HV c0 hnw hgl hsz50
    by_cases hk : kd xw < 5
    · have hkd : decide (kd xw < 5) = true := decide_eq_true hk
      by_cases hC : pt.length ≠ nums (kd xw) ∨ en = false
      · have HR : Hid (lineP l = (zA, 3)) := by show _ = _; rw [HP.out, if_neg (by omega), if_pos hC]
        by_cases hlq : pt.length = nums (kd xw)
        · obtain rfl : en = false := hC.resolve_left (fun h => h hlq)
          have hn9 : (n : Int) - 1 = (nums (kd xw) : Int) := by have := HPL.out; omega
          have hn8 : ((n : Int) - 1 != (nums (kd xw) : Int)) = false := by rw [hn9]; simp
          clear hn9 hC hlq
          go_wp2_with (refine wpList_store_row rfl 50 _ _ rfl nb Z50 rfl rfl 50 _ hrow2 HSZ.out rfl z50_one ?_)
          exact bodyPost_ret (v := .tuple #[.agg Z50, .int .i64 3]) (results_cell_tmp Tryd.results27 _ _ nb 50 _ (0, 0) _ rfl _ rfl (setRow_heap wc nb _ _ 50 _ hrow2) Tryd.underlying50 rfl HSZ.out) rfl ⟨by rw [HR.out]; rfl, (Keep.setRow wc nb Z50 [nb] (by simp)).below HB2.out (by intro j hj; rw [List.mem_singleton] at hj; rw [hj, HNB.out]; exact Nat.le_refl _)⟩
        · have hn8 : ((n : Int) - 1 != (nums (kd xw) : Int)) = true := by have := HPL.out; simp; omega
          clear hC hlq
          go_wp2_with (refine wpList_store_row rfl 50 _ _ rfl nb Z50 rfl rfl 50 _ hrow2 HSZ.out rfl z50_one ?_)
          exact bodyPost_ret (v := .tuple #[.agg Z50, .int .i64 3]) (results_cell_tmp Tryd.results27 _ _ nb 50 _ (0, 0) _ rfl _ rfl (setRow_heap wc nb _ _ 50 _ hrow2) Tryd.underlying50 rfl HSZ.out) rfl ⟨by rw [HR.out]; rfl, (Keep.setRow wc nb Z50 [nb] (by simp)).below HB2.out (by intro j hj; rw [List.mem_singleton] at hj; rw [hj, HNB.out]; exact Nat.le_refl _)⟩
      · have hm1 : pt.length = nums (kd xw) := Classical.byContradiction fun h => hC (.inl h)
        obtain rfl : en = true := by cases en with | true => rfl | false => exact absurd (.inr rfl) hC
        have HP2 : Hid (lineP l = if ∃ p ∈ pt, (numP p).2 = false then (zA, 3) else (accL xw (pt.map fun p => (numP p).1), wrg (accL xw (pt.map fun p => (numP p).1)))) := by show _ = _; rw [HP.out, if_neg (by omega), if_neg hC]
        obtain ⟨m, hmm⟩ : ∃ m, m = pt.length := ⟨_, rfl⟩
        have HMM := Lib.hid hmm
        have hm3 : m ≤ 3 := by have := nums_le (kd xw); omega
        have hm0 : 1 ≤ m := by have := nums_pos (kd xw) hk; omega
        have hnm : n = m + 1 := by have := HPL.out; omega
        have hnu : ((m : Nat) : Int) = (nums (kd xw) : Int) := by omega
        rw [← hnu] at mp
        subst hnm
        have hc0 := HC0.out
        have hN1 : ¬ m = 0 := by omega
        clear hC hm1 hmm hnu HP hle9
        go_wp2_with fail
        have hB0 : Below wc.heap.size wc (wc.alloc (.cells #[.string xw, .int .i64 0, .int .i64 0, .int .i64 0] 50)) := (Below.refl _ _).alloc (Nat.le_refl _) _
        have hP0 : (wc.alloc (.cells #[.string xw, .int .i64 0, .int .i64 0, .int .i64 0] 50)).heap[wc.heap.size]? = some (.cells (ac (accL xw ((pt.take 0).map fun p => (numP p).1))).toArray 50 (0, 0)) := heap_alloc_new wc _
        obtain ⟨pa, hpa⟩ : ∃ pa, pa = wc.heap.size := ⟨_, rfl⟩
        have HPA := Lib.hid hpa
        rw [← hpa] at hB0 hP0 ⊢
        have HPL2 : Hid (m + 1 = pt.length + 1) := HPL.out
        clear hpa hc0 hk hkd
        generalize wc.alloc (.cells #[.string xw, .int .i64 0, .int .i64 0, .int .i64 0] 50) = W0 at *
        go_loopw [52] (fun i wr => ∃ k : Nat, k ≤ m ∧ i = .int .i64 k ∧ wr.heap[pa]? = some (.cells (ac (accL xw ((pt.take k).map fun p => (numP p).1))).toArray 50 (0, 0)) ∧ Below pa wc wr ∧ ∀ p ∈ pt.take k, (numP p).2 = true) (fun i _ => m - (intOf i).toNat)
        case atStart => exact ⟨0, Nat.zero_le _, rfl, hP0, hB0, by simp⟩
        case round =>
          clear hP0 hB0
          obtain ⟨k, hkm, rfl, hrp, hb, hok⟩ := hrel
          have HRP := Lib.hid hrp
          have HB := Lib.hid hb
          have HOK := Lib.hid hok
          clear hrp hb hok
          have hWB : Hid (Below wc.heap.size wc wr) := by have h9 := HB.out; rw [HPA.out] at h9; exact h9
          by_cases hlt : k < m
          · obtain ⟨p, hp⟩ : ∃ p, pt[k]? = some p := ⟨_, List.getElem?_eq_getElem (by have := HMM.out; omega)⟩
            have hpart := hptl.out k p hp
            have hcell : wr.cell? ⟨g, o + 1 + k, none⟩ = some (.string (str p)) := by
              obtain ⟨a9, cap9, h8, h9⟩ := HV2.out.below hWB.out
              injection h8 with e1 e2 e3
              subst e1
              rcases h9 with h9 | ⟨g9, o9, e9, hg9, hc9⟩
              · rw [h9] at hpart; simp at hpart
              · injection e9 with e9
                injection e9 with e4 e5
                subst e4; subst e5
                have h7 := hc9 (k + 1) (str p) hpart 0 _ rfl
                rw [show o + (k + 1) * 1 + 0 = o + 1 + k by omega] at h7
                exact h7
            have HPK := Lib.hid hp
            have hq0 := number_is (str p) wr (hpsz.out p (List.mem_of_getElem? hp))
            rw [show (str p).data.toList = p from rfl] at hq0
            have htk : pt.take (k + 1) = pt.take k ++ [p] := by rw [List.take_add_one, hp]; rfl
            clear hp hpart
            by_cases hnp : (numP p).2 = true
            · have hqn : Calls Tryd.prog 39 #[.string (str p)] wr fun e w' => e = .returned (.tuple #[.int .i64 (numP p).1, .bool true]) ∧ Below wr.heap.size wr w' := by rw [hnp] at hq0; exact hq0
              have HST : Hid (∀ w2, Below wr.heap.size wr w2 → w2.heap[pa]? = some (.cells (ac (accL xw ((pt.take k).map fun p => (numP p).1))).toArray 50 (0, 0))) := fun w2 hb2 => (hb2.block pa (Array.getElem?_eq_some_iff.1 HRP.out).1).trans HRP.out
              have HTK := Lib.hid htk
              have HNP := Lib.hid hnp
              clear hq0 htk hnp
              go_wp2_with (go_at_call 39; (with_reducible refine hqn.mono ?_); rintro e w2 ⟨rfl, hb2⟩; have HW2 := Lib.hid (HST.out w2 hb2); obtain ⟨m1, m2⟩ := acc_cell (HST.out w2 hb2) k (by omega); clear hqn hcell)
              go_roundw
              case rel =>
                refine ⟨k + 1, by omega, by go_num, ?_, (HB.out.trans (hb2.mono (by rw [HPA.out]; exact hWB.out.size))).setCell (p := ⟨pa, 1 + k, none⟩) (Nat.le_refl _) _, fun q hq => ?_⟩
                · rw [HTK.out, List.map_append]
                  have h9 := heap_setCell_same w2 pa (1 + k) _ 50 (.int .i64 (numP p).1) HW2.out
                  rw [acc_set xw _ _ k (by rw [List.length_map, List.length_take]; have := HMM.out; omega) (by omega)] at h9
                  exact h9
                · rw [HTK.out] at hq
                  rcases List.mem_append.1 hq with h | h
                  · exact HOK.out q h
                  · rw [List.mem_singleton] at h; subst h; exact HNP.out
              case measure => simp [intOf]; omega
            · have hnp' : (numP p).2 = false := by simpa using hnp
              have HR : Hid (lineP l = (zA, 3)) := by show _ = _; rw [HP2.out, if_pos ⟨p, List.mem_of_getElem? HPK.out, hnp'⟩]
              have hqn : Calls Tryd.prog 39 #[.string (str p)] wr fun e w' => e = .returned (.tuple #[.int .i64 (numP p).1, .bool false]) ∧ Below wr.heap.size wr w' := by rw [hnp'] at hq0; exact hq0
              have HN9 : Hid (∀ w2, Below wr.heap.size wr w2 → w2.heap[nb]? = some (.cells Z50 50 (0, 0)) ∧ Below w.heap.size w w2) := fun w2 hb2 => by
                have h1 := (hWB.out.trans (hb2.mono hWB.out.size))
                exact ⟨(h1.block nb (Array.getElem?_eq_some_iff.1 HROW2.out).1).trans HROW2.out, HB2.out.trans (h1.mono HB2.out.size)⟩
              clear hq0 htk hnp hnp' hrow2
              go_wp2_with (first | (go_at_call 39; (with_reducible refine hqn.mono ?_); rintro e w2 ⟨rfl, hb2⟩; obtain ⟨hrow9, hbl9⟩ := HN9.out w2 hb2; clear hqn hcell) | (refine wpList_store_row rfl 50 _ _ rfl nb Z50 rfl rfl 50 _ hrow9 HSZ.out rfl z50_one ?_))
              exact bodyPost_ret (v := .tuple #[.agg Z50, .int .i64 3]) (results_cell_tmp Tryd.results27 _ _ nb 50 _ (0, 0) _ rfl _ rfl (setRow_heap w2 nb _ _ 50 _ hrow9) Tryd.underlying50 rfl HSZ.out) rfl ⟨by rw [HR.out]; rfl, (Keep.setRow w2 nb Z50 [nb] (by simp)).below hbl9 (by intro j hj; rw [List.mem_singleton] at hj; rw [hj, HNB.out]; exact Nat.le_refl _)⟩
          · have e1 : pt.take k = pt := List.take_of_length_le (by have := HMM.out; omega)
            have hrp := HRP.out
            have hok := HOK.out
            rw [e1] at hrp hok
            obtain ⟨x, hx⟩ : ∃ x, x = accL xw (pt.map fun p => (numP p).1) := ⟨_, rfl⟩
            have HR : Hid (lineP l = (x, wrg x)) := by
              show _ = _
              rw [HP2.out, if_neg (by rintro ⟨p, hp, h9⟩; rw [hok p hp] at h9; cases h9), hx]
            rw [← hx] at hrp
            have hrn := (hWB.out.block nb (Array.getElem?_eq_some_iff.1 HROW2.out).1).trans HROW2.out
            have hbl : Below w.heap.size w wr := HB2.out.trans (hWB.out.mono HB2.out.size)
            have hone : ∀ W, Calls Tryd.prog 20 #[.agg (ac x).toArray] W fun e w' => e = .returned (.int .i64 (wrg x)) ∧ Below W.heap.size W w' := fun W => one_is x W
            have hac1 : (ac x).toArray.all (·.oneCell') = true := by simp [ac, Value.oneCell']
            have HAC1 := Lib.hid hac1
            clear hac1
            have HX9 := Lib.hid hx
            have HRN := Lib.hid hrn
            have HBL := Lib.hid hbl
            have HRP9 := Lib.hid hrp
            clear hrow2 hx hok e1 hrn hbl hrp
            go_upto_region 17 with (fail)
            have c1 := Lib.hid fun d os => (hone (grow (redrawn wr d) os)).regrown_of
            clear hone
            refine wp_region_below_tail 3 (by kernel_rfl) (by kernel_rfl) ?_
            simp only [List.take_succ_cons, List.take_zero, List.drop_succ_cons, List.drop_zero]
            repeat (first | go_big_quiet_skip | (go_big_quiet_want; refine quiet_load_row 50 (.tmp 9) rfl pa rfl 50 (ac x).toArray (0, 0) _ HRP9.out Tryd.underlying50 rfl HSZ.out ?_; simp only [Act.put, List.setIfInBounds_toArray, List.set_cons_succ, List.set_cons_zero]; go_big_quiet_on) | go_big_quiet_step (with_reducible exact c1.out _ _))
            refine wpQuiet_nil ?_
            intro _ hw'
            obtain ⟨⟨dq, osq⟩, hw''⟩ := hw'
            subst hw''
            have hbq : Below wr.heap.size wr (grow (redrawn wr dq) osq) := below_regrown wr dq osq
            have hrn5 := (hbq.block nb (Array.getElem?_eq_some_iff.1 HRN.out).1).trans HRN.out
            have HB5 := Lib.hid (HBL.out.trans (hbq.mono HBL.out.size))
            clear hbq
            generalize grow (redrawn wr dq) osq = W5 at *
            go_wp2_with (refine wpList_store_row rfl 50 _ _ rfl nb (ac x).toArray rfl rfl 50 _ hrn5 HSZ.out rfl HAC1.out ?_)
            exact bodyPost_ret (v := .tuple #[.agg (ac x).toArray, .int .i64 (wrg x)]) (results_cell_tmp Tryd.results27 _ _ nb 50 _ (0, 0) _ rfl _ rfl (setRow_heap W5 nb _ _ 50 _ hrn5) Tryd.underlying50 rfl HSZ.out) rfl ⟨by rw [HR.out]; rfl, (Keep.setRow W5 nb _ [nb] (by simp)).below HB5.out (by intro j hj; rw [List.mem_singleton] at hj; rw [hj, HNB.out]; exact Nat.le_refl _)⟩
    · have hkd : decide (kd xw < 5) = false := decide_eq_false hk
      have HR : Hid (lineP l = (zA, 10)) := by show _ = _; rw [HP.out, if_pos (by omega)]
      go_wp2_with (refine wpList_store_row rfl 50 _ _ rfl nb Z50 rfl rfl 50 _ hrow2 HSZ.out rfl z50_one ?_)
      exact bodyPost_ret (v := .tuple #[.agg Z50, .int .i64 10]) (results_cell_tmp Tryd.results27 _ _ nb 50 _ (0, 0) _ rfl _ rfl (setRow_heap wc nb _ _ 50 _ hrow2) Tryd.underlying50 rfl HSZ.out) rfl ⟨by rw [HR.out]; rfl, (Keep.setRow wc nb Z50 [nb] (by simp)).below HB2.out (by intro j hj; rw [List.mem_singleton] at hj; rw [hj, HNB.out]; exact Nat.le_refl _)⟩
end Go.Proofs.YthoemgiadadfcaaDoor
