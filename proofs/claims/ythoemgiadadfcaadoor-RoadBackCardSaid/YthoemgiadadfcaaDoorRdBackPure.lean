/- What is written is read as it was: the plain law. -/
import Derived.Test.YthoemgiadadfcaaDoorRdText
set_option linter.unusedVariables false
set_option linter.unusedSimpArgs false
namespace Go.Proofs.YthoemgiadadfcaaDoor
open Go.RowKit Go.Sort
namespace Rd
theorem digit_dig (k : Nat) (h : k < 10) : dig (UInt8.ofNat (48 + k)) ∧ (UInt8.ofNat (48 + k)).toNat - 48 = k := by
  have : (UInt8.ofNat (48 + k)).toNat = 48 + k := by rw [UInt8.toNat_ofNat']; omega
  unfold dig
  omega
theorem decL_dig : ∀ (n : Nat), ∀ c ∈ decL n, dig c := by
  intro n
  induction n using Nat.strongRecOn with
  | ind n ih =>
    intro c hc
    by_cases h : n < 10
    · rw [decL_lt n h, List.mem_singleton] at hc
      subst hc
      exact (digit_dig n h).1
    · rw [decL_ge n h] at hc
      rcases List.mem_append.1 hc with hc | hc
      · exact ih (n / 10) (by omega) c hc
      · rw [List.mem_singleton] at hc
        subst hc
        exact (digit_dig _ (by omega)).1
theorem decL_ne (n : Nat) : decL n ≠ [] := by
  by_cases h : n < 10
  · rw [decL_lt n h]; simp
  · rw [decL_ge n h]; simp
theorem valL_dec : ∀ (n : Nat), valL (decL n) = n := by
  intro n
  induction n using Nat.strongRecOn with
  | ind n ih =>
    by_cases h : n < 10
    · rw [decL_lt n h, show [UInt8.ofNat (48 + n)] = [] ++ [UInt8.ofNat (48 + n)] from rfl, valL_snoc, (digit_dig n h).2]
      simp [valL]
    · rw [decL_ge n h, valL_snoc, ih (n / 10) (by omega), (digit_dig (n % 10) (by omega)).2]
      omega
theorem dig_ne {c : UInt8} (h : dig c) : c ≠ 45 ∧ c ≠ 32 ∧ c ≠ 10 := by
  unfold dig at h
  refine ⟨?_, ?_, ?_⟩ <;> (rintro rfl; simp at h)
theorem decI_ok (n : Int) : ∀ c ∈ decI n, c ≠ 32 ∧ c ≠ 10 := by
  intro c hc
  unfold decI at hc
  split at hc
  · rcases List.mem_cons.1 hc with rfl | hc
    · decide
    · exact (dig_ne (decL_dig _ c hc)).2
  · exact (dig_ne (decL_dig _ c hc)).2
theorem trimM_no (l : List UInt8) (h : ∀ c ∈ l, c ≠ 45) : trimM l = l := by
  unfold trimM Lib.trimPrefix Lib.hasPrefix
  cases l with
  | nil => rfl
  | cons b l =>
    have := h b (List.mem_cons_self ..)
    rw [if_neg (by simp [List.isPrefixOf]; exact fun e => this e.symm)]
theorem trimM_yes (l : List UInt8) : trimM (45 :: l) = l := by
  unfold trimM Lib.trimPrefix Lib.hasPrefix
  simp [List.isPrefixOf]
theorem numP_back (n : Int) (h : (decI n).length ≤ 18) : numP (decI n) = (n, true) := by
  by_cases hn : n < 0
  · have e : decI n = 45 :: decL n.natAbs := by unfold decI; rw [if_pos hn]
    rw [e] at h
    have hd : numD (45 :: decL n.natAbs) := by
      unfold numD
      rw [trimM_yes]
      exact ⟨decL_ne _, by rw [List.length_cons] at h; omega, decL_dig _⟩
    have hv : numV (45 :: decL n.natAbs) = n := by
      unfold numV
      rw [trimM_yes, if_neg (fun e => by have := congrArg List.length e; simp at this), valL_dec]
      omega
    unfold numP
    rw [e, if_pos hd, hv, decide_eq_true e]
  · have e : decI n = decL n.natAbs := by unfold decI; rw [if_neg hn]
    rw [e] at h
    have ht := trimM_no (decL n.natAbs) (fun c hc => (dig_ne (decL_dig _ c hc)).1)
    have hd : numD (decL n.natAbs) := by
      unfold numD
      rw [ht]
      exact ⟨decL_ne _, h, decL_dig _⟩
    have hv : numV (decL n.natAbs) = n := by
      unfold numV
      rw [ht, if_pos rfl, valL_dec]
      omega
    unfold numP
    rw [e, if_pos hd, hv, decide_eq_true e]
theorem sp_one : ∀ (p : List UInt8), (∀ c ∈ p, c ≠ 32) → sp p = [p]
  | [], _ => rfl
  | b :: p, h => by
    have ih := sp_one p fun c hc => h c (List.mem_cons_of_mem _ hc)
    rw [sp, if_neg (h b (List.mem_cons_self ..)), ih]
theorem sp_two : ∀ (p l : List UInt8), (∀ c ∈ p, c ≠ 32) → sp (p ++ 32 :: l) = p :: sp l
  | [], l, _ => by rw [List.nil_append, sp, if_pos rfl]
  | b :: p, l, h => by
    have ih := sp_two p l fun c hc => h c (List.mem_cons_of_mem _ hc)
    rw [List.cons_append, sp, if_neg (h b (List.mem_cons_self ..)), ih]
theorem sp_back : ∀ (ps : List (List UInt8)) (p : List UInt8), (∀ c ∈ p, c ≠ 32) → (∀ q ∈ ps, ∀ c ∈ q, c ≠ 32) → sp (p ++ ps.flatMap fun q => 32 :: q) = p :: ps
  | [], p, h, _ => by rw [List.flatMap_nil, List.append_nil, sp_one p h]
  | q :: ps, p, h, hq => by
    rw [List.flatMap_cons, List.cons_append, sp_two p _ h, sp_back ps q (hq q (List.mem_cons_self ..)) (fun q' h' => hq q' (List.mem_cons_of_mem _ h'))]
theorem lns_one : ∀ (p l : List UInt8), (∀ c ∈ p, c ≠ 10) → lns (p ++ 10 :: l) = (p ++ [10]) :: lns l
  | [], l, _ => by rw [List.nil_append, lns, if_pos rfl]; rfl
  | b :: p, l, h => by
    have ih := lns_one p l fun c hc => h c (List.mem_cons_of_mem _ hc)
    rw [List.cons_append, lns, if_neg (h b (List.mem_cons_self ..)), ih]; rfl
theorem kd_ok {s : ByteArray} (h : kd s < 5) : ∀ c ∈ s.data.toList, c ≠ 32 ∧ c ≠ 10 := by
  unfold kd at h
  split at h
  · rename_i e; rw [e]; decide
  · split at h
    · rename_i e; rw [e]; decide
    · split at h
      · rename_i e; rw [e]; decide
      · split at h
        · rename_i e; rw [e]; decide
        · split at h
          · rename_i e; rw [e]; decide
          · omega
theorem numB_map (x : Ac) (j : Nat) : numB x j = ((List.range j).map fun i => decI (at3 x i)).flatMap fun q => 32 :: q := by
  unfold numB
  rw [List.flatMap_map]
theorem lineW_body {x : Ac} (h : wrg x = 0) : ∀ c ∈ x.w.data.toList ++ numB x (nums (kd x.w)), c ≠ 10 := by
  intro c hc
  rcases List.mem_append.1 hc with hc | hc
  · exact (kd_ok (wrg_ok h).1 c hc).2
  · unfold numB at hc
    obtain ⟨i, _, hc⟩ := List.mem_flatMap.1 hc
    rcases List.mem_cons.1 hc with rfl | hc
    · decide
    · exact (decI_ok _ c hc).2
theorem acc_back {x : Ac} (h : wrg x = 0) : accL x.w ((List.range (nums (kd x.w))).map fun i => at3 x i) = x := by
  have hb := (wrg_ok h).2
  have h3 := nums_le (kd x.w)
  have h0 : ∀ j, j < 3 → nums (kd x.w) ≤ j → at3 x j = 0 := fun j hj hn => by
    have := hb j hj
    unfold badN at this
    exact Classical.byContradiction fun e => this (.inr (.inr ⟨hn, e⟩))
  obtain ⟨w, a, b, c⟩ := x
  generalize nums (kd _) = n at *
  have g0 := h0 0 (by omega)
  have g1 := h0 1 (by omega)
  have g2 := h0 2 (by omega)
  unfold accL
  match n, h3 with
  | 0, _ => simp only [at3] at g0 g1 g2; rw [g0 (by omega), g1 (by omega), g2 (by omega)]; rfl
  | 1, _ => simp only [at3] at g0 g1 g2; rw [g1 (by omega), g2 (by omega)]; rfl
  | 2, _ => simp only [at3] at g0 g1 g2; rw [g2 (by omega)]; rfl
  | 3, _ => rfl
/-- A right act's line is read. -/
theorem line_read {x : Ac} (h : wrg x = 0) : lineP (lineW x) = (x, 0) := by
  have hk := (wrg_ok h).1
  have h3 := nums_le (kd x.w)
  have hs : sp (Lib.trimSuffix (lineW x) [10]) = x.w.data.toList :: ((List.range (nums (kd x.w))).map fun i => decI (at3 x i)) := by
    unfold lineW
    rw [trim_ten, numB_map, sp_back _ _ (fun c hc => (kd_ok hk c hc).1) (fun q hq c hc => by
      obtain ⟨i, _, rfl⟩ := List.mem_map.1 hq
      exact (decI_ok _ c hc).1)]
  have hnum : ∀ i ∈ List.range (nums (kd x.w)), numP (decI (at3 x i)) = (at3 x i, true) := fun i hi => by
    have hi3 : i < 3 := by have := List.mem_range.1 hi; omega
    have hn := wrg_num h i hi3
    exact numP_back _ (by have := decI_len _ hn.1 hn.2; omega)
  have hm : (((List.range (nums (kd x.w))).map fun i => decI (at3 x i)).map fun p => (numP p).1) = (List.range (nums (kd x.w))).map fun i => at3 x i := by
    rw [List.map_map]
    refine List.map_congr_left fun i hi => ?_
    show (numP (decI (at3 x i))).1 = _
    rw [hnum i hi]
  have he : Lib.hasSuffix (lineW x) [10] = true := suffix_ten _
  unfold lineP
  rw [hs]
  simp only [List.headD_cons, List.tail_cons, str_data, hm, acc_back h, he, h]
  rw [if_neg (by omega), if_neg (by simp), if_neg]
  rintro ⟨p, hp, hf⟩
  obtain ⟨i, hi, rfl⟩ := List.mem_map.1 hp
  rw [hnum i hi] at hf
  cases hf
theorem lns_write : ∀ (l : List Ac), (∀ x ∈ l, wrg x = 0) → lns (writeL l) = l.map lineW
  | [], _ => rfl
  | x :: l, h => by
    have ih := lns_write l fun y hy => h y (List.mem_cons_of_mem _ hy)
    have e : writeL (x :: l) = (x.w.data.toList ++ numB x (nums (kd x.w))) ++ 10 :: writeL l := by
      unfold writeL
      rw [List.flatMap_cons]
      unfold lineW
      simp
    rw [e, lns_one _ _ (lineW_body (h x (List.mem_cons_self ..))), ih]
    rfl
theorem goP_read : ∀ (l : List Ac) (n : Nat) (acc : List Ac), (∀ x ∈ l, wrg x = 0) → goP (l.map lineW) n acc = (acc ++ l, 0, 0)
  | [], n, acc, _ => by simp [goP]
  | x :: l, n, acc, h => by
    rw [List.map_cons, goP, line_read (h x (List.mem_cons_self ..)), if_pos rfl, goP_read l (n + 1) _ fun y hy => h y (List.mem_cons_of_mem _ hy)]
    simp
/-- RoadBack. -/
theorem parse_write (l : List Ac) (hl : l.length ≤ 60) (h : ∀ x ∈ l, wrg x = 0) : parseP (writeL l) = (l, 0, 0) := by
  have := writeL_len l h
  unfold parseP
  rw [if_neg (by omega), lns_write l h, goP_read l 0 [] h]
  rfl
end Rd
end Go.Proofs.YthoemgiadadfcaaDoor
