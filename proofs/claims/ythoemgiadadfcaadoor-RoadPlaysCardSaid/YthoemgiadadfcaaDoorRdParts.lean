/- Acts done one behind the other: the plain law, and the walk of RoadParts. -/
import Derived.Test.YthoemgiadadfcaaDoorRdTrace
set_option linter.unusedVariables false
set_option linter.unusedSimpArgs false
namespace Go.Proofs.YthoemgiadadfcaaDoor
open Go.RowKit Go.Sort Rd
attribute [local go_sem] Oper.semAt_some
namespace Rd
def f0 (it : It) : It := (it.1, 0)
theorem map_modify {α : Type} (f g : α → α) (φ : α → α) (h : ∀ x, φ (f x) = g (φ x)) : ∀ (xs : List α) (i : Nat), (xs.modify i f).map φ = (xs.map φ).modify i g
  | [], i => by cases i <;> simp
  | x :: xs, 0 => by simp [h]
  | x :: xs, i + 1 => by simp [map_modify f g φ h xs i]
theorem updL_f0 (i : Int) (f : It → It) (hf : ∀ x, f0 (f x) = f (f0 x)) (xs : List It) : (updL i f xs).map f0 = updL i f (xs.map f0) := by
  unfold updL
  rw [List.length_map]
  split
  · exact map_modify _ _ _ hf _ _
  · rfl
theorem getD_f0 (xs : List It) (i : Nat) : f0 (xs.getD i (ByteArray.empty, 0)) = (xs.map f0).getD i (ByteArray.empty, 0) := by
  rw [List.getD_eq_getElem?_getD, List.getD_eq_getElem?_getD, List.getElem?_map]
  cases xs[i]? <;> rfl
theorem deedL_f0 (x : Ac) (xs : List It) : (deedL x xs).map f0 = deedL x (xs.map f0) := by
  unfold deedL
  generalize kd x.w = k
  unfold deedK
  split
  · unfold dropL
    rw [List.length_map]
    split
    · rw [List.eraseIdx_eq_take_drop_succ, List.eraseIdx_eq_take_drop_succ, List.map_append, List.map_take, List.map_drop]
    · rfl
  · unfold twiceL
    rw [List.length_map]
    split
    · unfold insL
      simp only [List.map_append, List.map_cons, List.map_take, List.map_drop, getD_f0]
    · rfl
  · unfold swapL
    rw [List.length_map]
    split
    · simp only [List.map_set, getD_f0]
    · rfl
  · refine updL_f0 _ _ (fun x => ?_) _
    unfold spoilF f0
    split <;> rfl
  · refine updL_f0 _ _ (fun x => ?_) _
    unfold trimF f0
    split <;> rfl
  · rfl
theorem fold_f0 : ∀ (acts : List Ac) (xs : List It), (acts.foldl (fun xs x => deedL x xs) xs).map f0 = acts.foldl (fun xs x => deedL x xs) (xs.map f0)
  | [], xs => rfl
  | x :: acts, xs => by rw [List.foldl_cons, List.foldl_cons, fold_f0 acts, deedL_f0]
theorem map_fst_f0 (xs : List It) : (xs.map f0).map (·.1) = xs.map (·.1) := by rw [List.map_map]; rfl
theorem initL_f0 (xs : List It) : (initL (xs.map (·.1))).map f0 = xs.map f0 := by
  unfold initL
  rw [List.map_map]
  have : (f0 ∘ fun p : ByteArray × Nat => (p.1, (p.2 : Int))) = (fun s => (s, (0 : Int))) ∘ Prod.fst := by funext p; rfl
  rw [this, ← List.map_map, List.zipIdx_map_fst, List.map_map]
  rfl
/-- Acts done behind acts. -/
theorem runL_parts (l : List ByteArray) (a b : List Ac) : (runL ((runL l a).map (·.1)) b).map (·.1) = (runL l (a ++ b)).map (·.1) := by
  unfold runL
  rw [List.foldl_append, ← map_fst_f0, fold_f0, initL_f0, ← fold_f0, map_fst_f0]
/-- Where nothing is spoilt or trimmed, each packet is the one that it was. -/
def Hm (l : List ByteArray) (xs : List It) : Prop := ∀ it ∈ xs, it.1 = l.getD it.2.toNat ByteArray.empty
theorem deedL_hm (l : List ByteArray) (x : Ac) (xs : List It) (h1 : x.w ≠ sSpoil) (h2 : x.w ≠ sTrim) (h : Hm l xs) : Hm l (deedL x xs) := by
  unfold deedL
  have hk : kd x.w ≠ 3 ∧ kd x.w ≠ 4 := by
    unfold kd
    rw [if_neg h1, if_neg h2]
    repeat' split
    all_goals decide
  obtain ⟨k, hkk⟩ : ∃ k, k = kd x.w := ⟨_, rfl⟩
  rw [← hkk] at hk ⊢
  have hg : ∀ i : Nat, i < xs.length → (xs.getD i (ByteArray.empty, 0)).1 = l.getD (xs.getD i (ByteArray.empty, 0)).2.toNat ByteArray.empty := fun i hi => by
    rw [List.getD_eq_getElem?_getD (l := xs), List.getElem?_eq_getElem hi]
    exact h _ (List.getElem_mem hi)
  unfold deedK
  split
  · unfold dropL; split
    · exact fun it hit => h it (List.mem_of_mem_eraseIdx hit)
    · exact h
  · unfold twiceL; split
    · rename_i hi
      intro it hit
      unfold insL at hit
      rcases List.mem_append.1 hit with hm | hm
      · exact h it (List.mem_of_mem_take hm)
      · rcases List.mem_cons.1 hm with rfl | hm
        · exact hg _ (by unfold inn at hi; omega)
        · exact h it (List.mem_of_mem_drop hm)
    · exact h
  · unfold swapL; split
    · rename_i hi
      intro it hit
      rcases List.mem_or_eq_of_mem_set hit with hm | rfl
      · rcases List.mem_or_eq_of_mem_set hm with hm | rfl
        · exact h it hm
        · exact hg _ (by unfold inn at hi; omega)
      · exact hg _ (by unfold inn at hi; omega)
    · exact h
  · exact absurd rfl hk.1
  · exact absurd rfl hk.2
  · exact h
theorem initL_hm (l : List ByteArray) : Hm l (initL l) := by
  intro it hit
  unfold initL at hit
  obtain ⟨⟨s, i⟩, hp, rfl⟩ := List.mem_map.1 hit
  have := List.mem_zipIdx_iff_getElem?.1 hp
  simp only at this
  rw [List.getD_eq_getElem?_getD]
  simp [this]
theorem fold_hm (l : List ByteArray) : ∀ (acts : List Ac) (xs : List It), (∀ x ∈ acts, x.w ≠ sSpoil ∧ x.w ≠ sTrim) → Hm l xs → Hm l (acts.foldl (fun xs x => deedL x xs) xs)
  | [], xs, _, h => h
  | x :: acts, xs, ha, h => fold_hm l acts _ (fun y hy => ha y (List.mem_cons_of_mem _ hy)) (deedL_hm l x xs (ha x (List.mem_cons_self ..)).1 (ha x (List.mem_cons_self ..)).2 h)
theorem runL_hm (l : List ByteArray) (acts : List Ac) (ha : ∀ x ∈ acts, x.w ≠ sSpoil ∧ x.w ≠ sTrim) : Hm l (runL l acts) := fold_hm l acts _ ha (initL_hm l)
end Rd
section
variable {P : Program} {ops : Array Oper} {rest : List Oper} {o : Oper} {a : Act} {Q : Exit → Act → World → Prop}
/-- A row that is read, all its cells. -/
theorem Rr.all {α : Type} {w : World} {k : Nat} {enc : α → List Value} (hk : ∀ x, (enc x).length = k) (hk0 : 0 < k) {p : Option Addr} {n cap : Nat} {xs : List α} (h : Rr w k enc (.slice p n cap) xs) :
    n = xs.length ∧ (xs = [] ∨ ∃ g o, p = some ⟨g, o, none⟩ ∧ ∀ j u, (xs.flatMap enc)[j]? = some u → w.cell? ⟨g, o + j, none⟩ = some u) := by
  obtain ⟨p', cap', hv, hx⟩ := h
  injection hv with e1 e2 e3
  subst e1
  refine ⟨e2, hx.imp id ?_⟩
  rintro ⟨g, o, rfl, _, hc⟩
  refine ⟨g, o, rfl, fun j u hu => ?_⟩
  have hj : j < xs.length * k := by rw [← flat_length hk]; exact (List.getElem?_eq_some_iff.1 hu).1
  have hi : j / k < xs.length := Nat.div_lt_of_lt_mul (by rw [Nat.mul_comm]; exact hj)
  have hm := Nat.mod_lt j hk0
  have e := flat_get hk xs (j / k) _ (List.getElem?_eq_getElem hi) (j % k) hm
  have hd : j / k * k + j % k = j := by rw [Nat.mul_comm]; exact Nat.div_add_mod j k
  rw [hd, hu] at e
  have := hc (j / k) _ (List.getElem?_eq_getElem hi) (j % k) u e.symm
  rwa [Nat.add_assoc, hd] at this
theorem run_append_rr {α : Type} {W : World} (ty t e : TypeId) (k bytes : Nat) (enc : α → List Value) (hk : ∀ x, (enc x).length = k) (z : Value) (hz : z.cells.size = k) (hk0 : 0 < k)
    (ht : P.underlying t = some (.slice e)) (hinfo : (P.info? e).map (fun i => (i.zero, i.size, i.bytes)) = some (some z, k, bytes)) (hb0 : 0 < bytes)
    (v vy : Value) (xs ys : List α) (h1 : ∀ y, ∀ u ∈ enc y, u.oneCell' = true) (HO : Rw W e k enc v xs) (HY : Rr W k enc vy ys) (hl : (xs.length + ys.length) * bytes ≤ 140737488355328) :
    ∃ v1 w1, (Builtin.append_ #[t, t] ty #[v, vy]).run P W = .ok v1 w1 ∧ Rw w1 e k enc v1 (xs ++ ys) ∧ Keep W w1 (foot v) ∧ ∀ j ∈ foot v1, j ∈ foot v ∨ W.heap.size ≤ j := by
  obtain ⟨i0, hi, hzz⟩ := Option.map_eq_some_iff.1 hinfo
  simp only [Prod.mk.injEq] at hzz
  obtain ⟨hz0, hz1, hz2⟩ := hzz
  have hlen : xs.length + ys.length ≤ 140737488355328 := Nat.le_trans (Nat.le_mul_of_pos_right _ hb0) hl
  obtain ⟨p, cap', rfl⟩ : ∃ p cap', vy = .slice p ys.length cap' := by obtain ⟨p, c, hv, _⟩ := HY; exact ⟨p, c, hv⟩
  have hall := (HY.all hk hk0).2
  rcases p with _ | ⟨g, o, s⟩
  · have hy : ys = [] := by
      rcases hall with h | ⟨g, o, h, _⟩
      · exact h
      · cases h
    subst hy
    refine ⟨v, W, ?_, by rw [List.append_nil]; exact HO, Keep.refl _ _, fun j hj => .inl hj⟩
    rcases HO.2 with ⟨rfl, hn⟩ | ⟨g, cap, cur, rfl, _, _, hnc, _⟩
    · simp [Builtin.append_, run_underlying ht, sizeOf, typeInfo, hi, Builtin.lenOf, Builtin.firstCells]
    · simp [Builtin.append_, run_underlying ht, sizeOf, typeInfo, hi, Builtin.lenOf, Builtin.firstCells, hnc, storeCells]
  · obtain ⟨v1, w1, hr, h2, h3, _, h5⟩ := run_append_own_at (P := P) W 0 t ty e i0 z k bytes ht hi hz0 hz1 hz2 hz hk0 v xs.length (xs.flatMap enc) HO ⟨g, o, s⟩ ys.length cap' (ys.flatMap enc) (by rw [flat_length hk])
      (by
        intro j u hu
        rcases hall with rfl | ⟨g', o', he, hc⟩
        · simp at hu
        · cases he
          rw [Go.WideShapes.add_plain]
          exact hc j u hu)
      (by intro u hu; obtain ⟨y, _, hy⟩ := List.mem_flatMap.1 hu; exact h1 y u hy) (by simp only [maxLen]; omega) hl (Nat.zero_le _)
    refine ⟨v1, w1, hr, by unfold Rw; simpa using h2, Keep.of_gb h3, ?_⟩
    intro j hj
    rcases h5 with h | h
    · left; unfold foot at hj ⊢; rwa [← h]
    · right; unfold foot at hj; rw [h] at hj; simp at hj; omega
theorem append_rr {α : Type} {W : World} (hgd : o.guard = none) (s x : Operand) (t e : TypeId) (k bytes : Nat) (enc : α → List Value) (hk : ∀ x, (enc x).length = k) (z : Value) (hz : z.cells.size = k) (hk0 : 0 < k)
    (ho : o.op = .call { callee := .builtin .append, args := #[s, x], argTypes := #[t, t] })
    (ht : P.underlying t = some (.slice e)) (hinfo : (P.info? e).map (fun i => (i.zero, i.size, i.bytes)) = some (some z, k, bytes)) (hb0 : 0 < bytes)
    (v vy : Value) (xs ys : List α) (h1 : ∀ y, ∀ u ∈ enc y, u.oneCell' = true) (hs : a.eval s = v) (hx : a.eval x = vy) (HO : Rw W e k enc v xs) (HY : Rr W k enc vy ys) (hl : (xs.length + ys.length) * bytes ≤ 140737488355328)
    (h : ∀ v1 w1, Rw w1 e k enc v1 (xs ++ ys) → Keep W w1 (foot v) → (∀ j ∈ foot v1, j ∈ foot v ∨ W.heap.size ≤ j) → wpList P ops Q rest (a.put o.dst v1) w1) :
    wpList P ops Q (o :: rest) a W := by
  obtain ⟨v1, w1, hr, h1, h2, h3⟩ := run_append_rr (P := P) (W := W) o.type t e k bytes enc hk z hz hk0 ht hinfo hb0 v vy xs ys h1 HO HY hl
  refine wpList_plain hgd fun K hK => ?_
  unfold Oper.wp execOp
  simp only [ho, resolve, invoke, builtin, Sem.run_bind, Sem.run_pure, Result.andThen_ok, List.map_toArray, List.map_cons, List.map_nil, hs, hx, hr]
  exact hK _ _ (h v1 w1 h1 h2 h3)
end
theorem info29 : (Tryd.prog.info? 29).map (fun i => (i.zero, i.size, i.bytes)) = some (some (.agg #[.string ⟨#[]⟩, .int .i64 0, .int .i64 0, .int .i64 0]), 4, 40) := by kernel_rfl
set_option maxRecDepth 100000 in
set_option maxHeartbeats 1600000 in
theorem parts_no1 (v u u' : Value) (l : List ByteArray) (a b : List Ac) (w : World) (h : Rr w 1 st v l) (h' : Rr w 4 ac u a) (h2 : Rr w 4 ac u' b) (hn : l.length ≤ 9223372036854775807) (hn' : a.length ≤ 9223372036854775807) (hn2 : b.length ≤ 9223372036854775807) (hm : Mx w) (hf1 : ¬ Fw l a) :
    Calls Tryd.prog 5 #[v, u, u'] w fun e w' => e = .returned (.bool true) ∧ Below w.heap.size w w' := by
  have HQ1 := few_at h h' hn hn' _ (few_no _ _ hf1)
  clear hf1
  have HM := awake_at hm
  have HM2 := awake_at hm
  clear h h' h2 hn hn' hn2 hm
  go_enter Tryd.func5, Tryd.ntmps5
  go_wp2_with first
    | (go_at_call 8; (with_reducible refine (HM.out _ (Below.refl _ _)).mono ?_); rintro e w1 ⟨rfl, hb1⟩; have HB1 := Lib.hid hb1; clear hb1 HM)
    | (go_at_call 9; (with_reducible refine (HQ1.out _ HB1.out).mono ?_); rintro e w2 ⟨rfl, rfl⟩; clear HQ1)
    | (go_at_call 8; (with_reducible refine (HM2.out _ HB1.out).mono ?_); rintro e w3 ⟨rfl, hb2⟩; have HB9 := Lib.hid hb2; clear hb2)
  go_ret
  exact ⟨rfl, HB9.out⟩
set_option maxRecDepth 100000 in
set_option maxHeartbeats 1600000 in
theorem parts_no2 (v u u' : Value) (l : List ByteArray) (a b : List Ac) (w : World) (h : Rr w 1 st v l) (h' : Rr w 4 ac u a) (h2 : Rr w 4 ac u' b) (hn : l.length ≤ 9223372036854775807) (hn' : a.length ≤ 9223372036854775807) (hn2 : b.length ≤ 9223372036854775807) (hm : Mx w) (hf1 : Fw l a) (hf2 : ¬ Fw l b) :
    Calls Tryd.prog 5 #[v, u, u'] w fun e w' => e = .returned (.bool true) ∧ Below w.heap.size w w' := by
  have HQ1 := few_at h h' hn hn' _ (few_yes hf1)
  have HQ2 := few_at h h2 hn hn2 _ (few_no _ _ hf2)
  clear hf1 hf2
  have HM := awake_at hm
  have HM2 := awake_at hm
  clear h h' h2 hn hn' hn2 hm
  go_enter Tryd.func5, Tryd.ntmps5
  go_wp2_with first
    | (go_at_call 8; (with_reducible refine (HM.out _ (Below.refl _ _)).mono ?_); rintro e w1 ⟨rfl, hb1⟩; have HB1 := Lib.hid hb1; clear hb1 HM)
    | (go_at_call 9; (with_reducible refine (HQ1.out _ HB1.out).mono ?_); rintro e w2 ⟨rfl, rfl⟩; clear HQ1)
    | (go_at_call 9; (with_reducible refine (HQ2.out _ HB1.out).mono ?_); rintro e w2 ⟨rfl, rfl⟩; clear HQ2)
    | (go_at_call 8; (with_reducible refine (HM2.out _ HB1.out).mono ?_); rintro e w3 ⟨rfl, hb2⟩; have HB9 := Lib.hid hb2; clear hb2)
  go_ret
  exact ⟨rfl, HB9.out⟩
set_option maxRecDepth 100000 in
set_option maxHeartbeats 1600000 in
theorem parts_no3 (v u u' : Value) (l : List ByteArray) (a b : List Ac) (w : World) (h : Rr w 1 st v l) (h' : Rr w 4 ac u a) (h2 : Rr w 4 ac u' b) (hn : l.length ≤ 9223372036854775807) (hn' : a.length ≤ 9223372036854775807) (hn2 : b.length ≤ 9223372036854775807) (hm : Mx w) (hf1 : Fw l a) (hf2 : Fw l b) (hw1 : wrs a ≠ 0) :
    Calls Tryd.prog 5 #[v, u, u'] w fun e w' => e = .returned (.bool true) ∧ Below w.heap.size w w' := by
  have HQ1 := few_at h h' hn hn' _ (few_yes hf1)
  have HQ2 := few_at h h2 hn hn2 _ (few_yes hf2)
  have HW1 := wrong_at h' (by have := hf1.2.2.1; omega) _ rfl
  have hw0 : (wrs a != 0) = true := by simpa using hw1
  clear hw1
  clear hf1 hf2
  have HM := awake_at hm
  have HM2 := awake_at hm
  clear h h' h2 hn hn' hn2 hm
  go_enter Tryd.func5, Tryd.ntmps5
  go_wp2_with first
    | (go_at_call 8; (with_reducible refine (HM.out _ (Below.refl _ _)).mono ?_); rintro e w1 ⟨rfl, hb1⟩; have HB1 := Lib.hid hb1; clear hb1 HM)
    | (go_at_call 9; (with_reducible refine (HQ1.out _ HB1.out).mono ?_); rintro e w2 ⟨rfl, rfl⟩; clear HQ1)
    | (go_at_call 9; (with_reducible refine (HQ2.out _ HB1.out).mono ?_); rintro e w2 ⟨rfl, rfl⟩; clear HQ2)
    | (go_at_call 10; (with_reducible refine (HW1.out _ HB1.out).mono ?_); rintro e w3 ⟨rfl, hb2⟩; clear HB1; have HB1 := Lib.hid hb2; clear hb2 HW1)
    | (go_at_call 8; (with_reducible refine (HM2.out _ HB1.out).mono ?_); rintro e w3 ⟨rfl, hb2⟩; have HB9 := Lib.hid hb2; clear hb2)
  go_ret
  exact ⟨rfl, HB9.out⟩
set_option maxRecDepth 100000 in
set_option maxHeartbeats 1600000 in
theorem parts_no4 (v u u' : Value) (l : List ByteArray) (a b : List Ac) (w : World) (h : Rr w 1 st v l) (h' : Rr w 4 ac u a) (h2 : Rr w 4 ac u' b) (hn : l.length ≤ 9223372036854775807) (hn' : a.length ≤ 9223372036854775807) (hn2 : b.length ≤ 9223372036854775807) (hm : Mx w) (hf1 : Fw l a) (hf2 : Fw l b) (hw1 : wrs a = 0) (hw2 : wrs b ≠ 0) :
    Calls Tryd.prog 5 #[v, u, u'] w fun e w' => e = .returned (.bool true) ∧ Below w.heap.size w w' := by
  have HQ1 := few_at h h' hn hn' _ (few_yes hf1)
  have HQ2 := few_at h h2 hn hn2 _ (few_yes hf2)
  have HW1 := wrong_at h' (by have := hf1.2.2.1; omega) _ hw1
  clear hw1
  have HW2 := wrong_at h2 (by have := hf2.2.2.1; omega) _ rfl
  have hw0 : (wrs b != 0) = true := by simpa using hw2
  clear hw2
  clear hf1 hf2
  have HM := awake_at hm
  have HM2 := awake_at hm
  clear h h' h2 hn hn' hn2 hm
  go_enter Tryd.func5, Tryd.ntmps5
  go_wp2_with first
    | (go_at_call 8; (with_reducible refine (HM.out _ (Below.refl _ _)).mono ?_); rintro e w1 ⟨rfl, hb1⟩; have HB1 := Lib.hid hb1; clear hb1 HM)
    | (go_at_call 9; (with_reducible refine (HQ1.out _ HB1.out).mono ?_); rintro e w2 ⟨rfl, rfl⟩; clear HQ1)
    | (go_at_call 9; (with_reducible refine (HQ2.out _ HB1.out).mono ?_); rintro e w2 ⟨rfl, rfl⟩; clear HQ2)
    | (go_at_call 10; (with_reducible refine (HW1.out _ HB1.out).mono ?_); rintro e w3 ⟨rfl, hb2⟩; clear HB1; have HB1 := Lib.hid hb2; clear hb2 HW1)
    | (go_at_call 10; (with_reducible refine (HW2.out _ HB1.out).mono ?_); rintro e w3 ⟨rfl, hb2⟩; clear HB1; have HB1 := Lib.hid hb2; clear hb2 HW2)
    | (go_at_call 8; (with_reducible refine (HM2.out _ HB1.out).mono ?_); rintro e w3 ⟨rfl, hb2⟩; have HB9 := Lib.hid hb2; clear hb2)
  go_ret
  exact ⟨rfl, HB9.out⟩
/-- What Do leaves, of any lists. -/
theorem do_gen (l : List ByteArray) (acts : List Ac) (hn : l.length ≤ 1000) (hn' : acts.length ≤ 1000) (hs : ∀ s ∈ l, s.size ≤ 140737488355328) (hw : wrs acts = 0) (L : List ByteArray) (hL : (runL l acts).map (·.1) = L) (n : Nat) (hN : L.length = n) :
    Hid (∀ w' v u, Rr w' 1 st v l → Rr w' 4 ac u acts → Calls Tryd.prog 11 #[v, u] w' fun e w'' => ∃ a cap, e = .returned (.tuple #[.slice a n cap, .int .i64 0]) ∧ Rr w'' 1 st (.slice a n cap) L ∧ Below w'.heap.size w' w'') := fun w' v u hv hu => (do_ok v u l acts w' hv hu hn hn' hs hw).mono fun e w'' h9 => by
  obtain ⟨r, rfl, hr, hb⟩ := h9
  rw [hL] at hr
  obtain ⟨a, cap, rfl⟩ := hr.shape
  subst hN
  exact ⟨a, cap, rfl, hr.read st_length, hb⟩
theorem trace_gen (l : List ByteArray) (acts : List Ac) (hn : l.length ≤ 1000) (hn' : acts.length ≤ 1000) (hs : ∀ s ∈ l, s.size ≤ 140737488355328) (hw : wrs acts = 0) (L : List Fm) (hL : trL l (runL l acts) = L) (n : Nat) (hN : L.length = n) :
    Hid (∀ w' v u, Rr w' 1 st v l → Rr w' 4 ac u acts → Calls Tryd.prog 13 #[v, u] w' fun e w'' => ∃ a cap, e = .returned (.tuple #[.slice a n cap, .int .i64 0]) ∧ Rr w'' 2 fm (.slice a n cap) L ∧ Below w'.heap.size w' w'') := fun w' v u hv hu => (trace_ok v u l acts w' hv hu hn hn' hs hw).mono fun e w'' h9 => by
  obtain ⟨r, rfl, hr, hb⟩ := h9
  rw [hL] at hr
  obtain ⟨a, cap, rfl⟩ := hr.shape
  subst hN
  exact ⟨a, cap, rfl, hr.read fm_length, hb⟩
theorem of_gen (acts : List Ac) (hn' : acts.length ≤ 100000) :
    Hid (∀ w' u, Rr w' 4 ac u acts → Calls Tryd.prog 12 #[u] w' fun e w'' => ∃ u', e = .returned u' ∧ Rr w'' 4 ac u' acts ∧ Below w'.heap.size w' w'') := fun w' u hu => (of_is u acts w' hu hn').mono fun e w'' h9 => by
  obtain ⟨u', rfl, h1, h2⟩ := h9
  exact ⟨u', rfl, h1.read ac_length, h2⟩
theorem wrs_append : ∀ (a b : List Ac), wrs a = 0 → wrs b = 0 → wrs (a ++ b) = 0
  | [], b, _, hb => hb
  | x :: a, b, ha, hb => by
    have hx := wrs_all _ ha x (List.mem_cons_self ..)
    unfold wrs at ha
    rw [if_pos hx] at ha
    rw [List.cons_append]
    unfold wrs
    rw [if_pos hx]
    exact wrs_append a b ha hb
theorem spoil_cmp {s : ByteArray} (h : s ≠ sSpoil) : (s.toList == [115, 112, 111, 105, 108]) = false := tl_no h
theorem trim_cmp {s : ByteArray} (h : s ≠ sTrim) : (s.toList == [116, 114, 105, 109]) = false := tl_no h
theorem spoil_yes {s : ByteArray} (h : s = sSpoil) : (s.toList == [115, 112, 111, 105, 108]) = true := tl_yes h
theorem trim_yes {s : ByteArray} (h : s = sTrim) : (s.toList == [116, 114, 105, 109]) = true := tl_yes h
theorem fm_cells {w : World} {g o i : Nat} {x : Fm} (h : ∀ j u, (fm x)[j]? = some u → w.cell? ⟨g, o + i * 2 + j, none⟩ = some u) : w.cell? ⟨g, o + i * 2, none⟩ = some (.int .i64 x.1) ∧ w.cell? ⟨g, o + i * 2 + 1, none⟩ = some (.bool x.2) := ⟨h 0 _ rfl, h 1 _ rfl⟩
set_option maxRecDepth 100000 in
set_option maxHeartbeats 3200000 in
theorem parts_is (v u u' : Value) (l : List ByteArray) (a b : List Ac) (w : World) (h : Rr w 1 st v l) (h' : Rr w 4 ac u a) (h2 : Rr w 4 ac u' b) (hm : Mx w) (hf1 : Fw l a) (hf2 : Fw l b) (hw1 : wrs a = 0) (hw2 : wrs b = 0) :
    Calls Tryd.prog 5 #[v, u, u'] w fun e w' => e = .returned (.bool true) ∧ Below w.heap.size w w' := by
  have hl60 := hf1.1
  have ha60 := hf1.2.2.1
  have hb60 := hf2.2.2.1
  have HQ1 := few_at h h' (by omega) (by omega) _ (few_yes hf1)
  have HQ2 := few_at h h2 (by omega) (by omega) _ (few_yes hf2)
  have HW1 := wrong_at h' (by omega) _ hw1
  have HW2 := wrong_at h2 (by omega) _ hw2
  have HM := awake_at hm
  obtain ⟨L1, hL1⟩ : ∃ L, L = (runL l a).map (·.1) := ⟨_, rfl⟩
  obtain ⟨L, hL⟩ : ∃ L, L = (runL l (a ++ b)).map (·.1) := ⟨_, rfl⟩
  obtain ⟨N, hN⟩ : ∃ N, N = L.length := ⟨_, rfl⟩
  have hsz := few_sz hf1
  have hL1n : L1.length ≤ 1000 := by
    have := fold_le a (initL l)
    rw [initL_length] at this
    rw [hL1, List.length_map]
    unfold runL
    omega
  have hLn : L.length ≤ 1000 := by
    have := fold_le (a ++ b) (initL l)
    rw [initL_length, List.length_append] at this
    rw [hL, List.length_map]
    unfold runL
    omega
  have HD1 := do_gen l a (by omega) (by omega) hsz hw1 L1 hL1.symm L1.length rfl
  have HD2 := do_gen L1 b hL1n (by omega) (fun s hs => by
    rw [hL1] at hs
    obtain ⟨it, hit, rfl⟩ := List.mem_map.1 hs
    exact fold_sz _ a _ (initL_sz _ l hsz) it hit) hw2 L (by rw [hL1, hL]; exact runL_parts l a b) N hN.symm
  have hw3 := wrs_append a b hw1 hw2
  have hab : (a ++ b).length ≤ 120 := by rw [List.length_append]; omega
  have HD3 := do_gen l (a ++ b) (by omega) (by omega) hsz hw3 L hL.symm N hN.symm
  have HT := trace_gen l (a ++ b) (by omega) (by omega) hsz hw3 _ rfl N (by rw [hN, hL]; unfold trL; rw [List.length_map, List.length_map])
  have HGD := Lib.hid (runL_gd l (a ++ b))
  have HHM := Lib.hid (runL_hm l (a ++ b))
  have HO1 := of_gen a (by omega)
  have HO2 := of_gen b (by omega)
  have HO3 := of_gen (a ++ b) (by omega)
  have HO4 := of_gen (a ++ b) (by omega)
  obtain ⟨all, hall⟩ : ∃ all, all = a ++ b := ⟨_, rfl⟩
  have HALL := Lib.hid hall
  rw [← hall] at HD3 HT HGD HHM HO3 HO4 hab hL
  clear hall
  obtain ⟨pv, cv, rfl⟩ : ∃ p c, v = .slice p l.length c := by obtain ⟨p, c, e, _⟩ := h; exact ⟨p, c, e⟩
  have HV := Lib.hid h
  have HA := Lib.hid h'
  have HB := Lib.hid h2
  have HLE := Lib.hid hL
  have HNE := Lib.hid hN
  clear h h' h2 hm hf1 hf2 hw1 hw2 hw3 hL1 hL hN hsz
  have hNn : N ≤ 1000 := by rw [HNE.out]; exact hLn
  go_enter Tryd.func5, Tryd.ntmps5
  go_wp2_with first
    | (go_at_call 8; (with_reducible refine (HM.out _ (Below.refl _ _)).mono ?_); rintro e w1 ⟨rfl, hb1⟩; have HB1 := Lib.hid hb1; clear hb1 HM)
    | (go_at_call 9; (with_reducible refine (HQ1.out _ HB1.out).mono ?_); rintro e w2 ⟨rfl, rfl⟩; clear HQ1)
    | (go_at_call 9; (with_reducible refine (HQ2.out _ HB1.out).mono ?_); rintro e w2 ⟨rfl, rfl⟩; clear HQ2)
    | (go_at_call 10; (with_reducible refine (HW1.out _ HB1.out).mono ?_); rintro e w2 ⟨rfl, hb⟩; have HB2 := Lib.hid hb; clear hb HW1)
    | (go_at_call 10; (with_reducible refine (HW2.out _ HB2.out).mono ?_); rintro e w3 ⟨rfl, hb⟩; have HB3 := Lib.hid hb; clear hb HW2)
    | (go_at_call 12; (with_reducible refine (HO1.out _ _ (HA.out.below HB3.out)).mono ?_); rintro e w4 ⟨u4, rfl, hu, hb⟩; have HB4 := Lib.hid (HB3.out.trans (hb.mono HB3.out.size)); have HU4 := Lib.hid hu; clear hb hu HO1)
    | (go_at_call 11; (with_reducible refine (HD1.out _ _ _ (HV.out.below HB4.out) HU4.out).mono ?_); rintro e w5 ⟨a5, c5, rfl, hr, hb⟩; have HB5 := Lib.hid (HB4.out.trans (hb.mono HB4.out.size)); have HX5 := Lib.hid hr; clear hb hr HD1)
    | (go_at_call 12; (with_reducible refine (HO2.out _ _ (HB.out.below HB5.out)).mono ?_); rintro e w6 ⟨u6, rfl, hu, hb⟩; have HB6 := Lib.hid (HB5.out.trans (hb.mono HB5.out.size)); have HU6 := Lib.hid hu; have HX6 := Lib.hid (HX5.out.below hb); clear hb hu HO2 HX5)
    | (go_at_call 11; (with_reducible refine (HD2.out _ _ _ HX6.out HU6.out).mono ?_); rintro e w7 ⟨a7, c7, rfl, hr, hb⟩; have HB7 := Lib.hid (HB6.out.trans (hb.mono HB6.out.size)); have HY7 := Lib.hid hr; clear hb hr HD2 HX6)
    | (at_builtin; refine append_rr rfl _ _ 23 29 4 40 ac ac_length _ rfl (by omega) rfl Tryd.underlying23 info29 (by omega) (.slice (some ⟨w7.heap.size, 0, none⟩) 0 0) u [] a ac_one rfl rfl ⟨rfl, .inr ⟨_, _, _, rfl, Nat.zero_le _, heap_alloc_new w7 _, Nat.le_refl _, Nat.zero_le _, rfl, rfl⟩⟩ ((HA.out.below HB7.out).below ((Below.refl _ _).alloc (Nat.le_refl _) _)) (by simp; omega) ?_; intro v8 w8 ho hk8 hat8; have HB78 := Lib.hid (hk8.below ((Below.refl w7.heap.size w7).alloc (Nat.le_refl _) _) (fun j hj => by rw [foot_slice, List.mem_singleton] at hj; omega)); have HF8 := Lib.hid (show ∀ j ∈ foot v8, w7.heap.size ≤ j from fun j hj => by rcases hat8 j hj with h9 | h9; (rw [foot_slice, List.mem_singleton] at h9; omega); (simp at h9; omega)); have HR8 := Lib.hid ho; clear ho hk8 hat8)
    | (at_builtin; refine append_rr rfl _ _ 23 29 4 40 ac ac_length _ rfl (by omega) rfl Tryd.underlying23 info29 (by omega) v8 u' ([] ++ a) b ac_one rfl rfl HR8.out ((HB.out.below HB7.out).below HB78.out) (by simp; omega) ?_; intro v9 w9 ho hk9 hat9; have HB79 := Lib.hid (hk9.below HB78.out HF8.out); rw [show ([] ++ a) ++ b = all from by rw [List.nil_append]; exact HALL.out.symm] at ho; obtain ⟨p9, c9, rfl⟩ := ho.shape; have HR9 := Lib.hid (ho.read ac_length); clear ho hk9 hat9 HR8 HF8)
    | (go_at_call 12; (with_reducible refine (HO3.out _ _ HR9.out).mono ?_); rintro e w10 ⟨u10, rfl, hu, hb⟩; have HB10 := Lib.hid (HB79.out.trans (hb.mono HB79.out.size)); have HU10 := Lib.hid hu; have HR10 := Lib.hid (HR9.out.below hb); clear hb hu HO3 HR9)
    | (go_at_call 11; (with_reducible refine (HD3.out _ _ _ ((HV.out.below HB7.out).below HB10.out) HU10.out).mono ?_); rintro e w11 ⟨a11, c11, rfl, hr, hb⟩; have HB11 := Lib.hid (HB10.out.trans (hb.mono HB10.out.size)); have HZ11 := Lib.hid hr; have HR11 := Lib.hid (HR10.out.below hb); clear hb hr HD3 HR10)
    | (go_at_call 12; (with_reducible refine (HO4.out _ _ HR11.out).mono ?_); rintro e w12 ⟨u12, rfl, hu, hb⟩; have HB12 := Lib.hid (HB11.out.trans (hb.mono HB11.out.size)); have HU12 := Lib.hid hu; have HR12 := Lib.hid (HR11.out.below hb); have HZ12 := Lib.hid (HZ11.out.below hb); clear hb hu HO4 HR11 HZ11)
    | (go_at_call 13; (with_reducible refine (HT.out _ _ _ ((HV.out.below HB7.out).below HB12.out) HU12.out).mono ?_); rintro e w13 ⟨a13, c13, rfl, hr, hb⟩; have HB13 := Lib.hid (HB12.out.trans (hb.mono HB12.out.size)); have HT13 := Lib.hid hr; have HR13 := Lib.hid (HR12.out.below hb); have HZ13 := Lib.hid (HZ12.out.below hb); clear hb hr HT HR12 HZ12)
  have HY13 := Lib.hid (HY7.out.below HB13.out)
  have HBE := Lib.hid (HB7.out.trans (HB13.out.mono HB7.out.size))
  clear HY7 HB1 HB2 HB3 HB4 HB5 HB6 HB7 HB78 HB79 HB10 HB11 HB12 HB13 HU4 HU6 HU10 HU12 HV HA HB
  go_loop [16, 17] (fun h i => ∃ (k : Nat) (bb : Bool), k ≤ all.length ∧ i = .int .i64 k ∧ h = .bool bb ∧ (bb = true → ∀ (j : Nat) (x : Ac), j < k → all[j]? = some x → x.w ≠ sSpoil ∧ x.w ≠ sTrim)) (fun _ i => all.length - (intOf i).toNat)
  case atStart => exact ⟨0, true, Nat.zero_le _, rfl, rfl, fun _ j _ hj => absurd hj (Nat.not_lt_zero _)⟩
  case round =>
    obtain ⟨k, bb, hk, rfl, rfl, h0⟩ := hrel
    have H0 := Lib.hid h0
    clear h0
    by_cases hlt : k < all.length
    · obtain ⟨g, o, rfl, hg, x, hx, hc⟩ := HR13.out.at_ k hlt
      obtain ⟨c0, c1, c2, c3⟩ := ac_cells hc
      have HXK := Lib.hid hx
      clear hx hc
      cases bb with
      | false =>
        go_wp2_with fail
        go_round
        case rel => exact ⟨k + 1, false, by omega, by go_num, rfl, fun h => by cases h⟩
        case measure => simp [intOf]; omega
      | true =>
        by_cases hsp : x.w = sSpoil
        · have d1 := spoil_yes hsp
          clear hsp
          go_wp2_with fail
          go_round
          case rel => exact ⟨k + 1, false, by omega, by go_num, rfl, fun h => by cases h⟩
          case measure => simp [intOf]; omega
        · have d1 := spoil_cmp hsp
          by_cases htr : x.w = sTrim
          · have d2 := trim_yes htr
            clear hsp htr
            go_wp2_with fail
            go_round
            case rel => exact ⟨k + 1, false, by omega, by go_num, rfl, fun h => by cases h⟩
            case measure => simp [intOf]; omega
          · have d2 := trim_cmp htr
            have HNE2 := Lib.hid (And.intro hsp htr)
            clear hsp htr
            go_wp2_with fail
            go_round
            case rel =>
              refine ⟨k + 1, true, by omega, by go_num, rfl, fun _ j y hj hy => ?_⟩
              by_cases hjk : j = k
              · subst hjk
                have h9 := HXK.out
                rw [hy] at h9
                obtain rfl := Option.some.inj h9
                exact HNE2.out
              · exact H0.out rfl j y (by omega) hy
            case measure => simp [intOf]; omega
    · have HH : Hid (bb = true → Hm l (runL l all)) := fun hbb => HHM.out fun x hx => by
        obtain ⟨j, hj⟩ := List.getElem?_of_mem hx
        exact H0.out hbb j x (by have := (List.getElem?_eq_some_iff.1 hj).1; omega) hj
      clear H0 HR13 HHM
      go_wp2_with fail
      go_loopw [18] (fun i wr => ∃ (k : Nat), k ≤ N ∧ i = .int .i64 k ∧ Below w13.heap.size w13 wr) (fun i _ => N - (intOf i).toNat)
      case atStart => exact ⟨0, Nat.zero_le _, rfl, Below.refl _ _⟩
      case round =>
        obtain ⟨k, hk, rfl, hbw⟩ := hrel
        have HBW := Lib.hid hbw
        clear hbw
        by_cases hlt : k < N
        · have hkr : k < (runL l all).length := by have h1 := HNE.out; rw [HLE.out, List.length_map] at h1; omega
          have hLk : L[k]? = some ((runL l all)[k]'hkr).1 := by rw [HLE.out, List.getElem?_map, List.getElem?_eq_getElem hkr]; rfl
          have hTk : (trL l (runL l all))[k]? = some (trI l ((runL l all)[k]'hkr)) := by unfold trL; rw [List.getElem?_map, List.getElem?_eq_getElem hkr]; rfl
          have hgd := HGD.out _ (List.getElem_mem hkr)
          have hhm : bb = true → (((runL l all)[k]'hkr).1 = l.getD ((runL l all)[k]'hkr).2.toNat ByteArray.empty) := fun hb => HH.out hb _ (List.getElem_mem hkr)
          obtain ⟨it, hit⟩ : ∃ it, it = (runL l all)[k]'hkr := ⟨_, rfl⟩
          rw [← hit] at hLk hTk hgd hhm
          obtain ⟨s, at_⟩ := it
          obtain ⟨at', rfl⟩ : ∃ n : Nat, at_ = (n : Int) := ⟨at_.toNat, by have := hgd.1; simp only at this ⊢; omega⟩
          have hat : at' < l.length := by have := hgd.2; simp only at this; omega
          obtain ⟨gy, oy, rfl, hgy, y, hy, hcy⟩ := (HY13.out.below HBW.out).at_ k (by rw [← HNE.out]; exact hlt)
          obtain ⟨gz, oz, rfl, hgz, z, hz, hcz⟩ := (HZ13.out.below HBW.out).at_ k (by rw [← HNE.out]; exact hlt)
          obtain ⟨gt, ot, rfl, hgt, t, ht, hct⟩ := (HT13.out.below HBW.out).at_ k (by unfold trL; rw [List.length_map]; exact hkr)
          rw [hLk] at hy hz
          rw [hTk] at ht
          cases hy; cases hz; cases ht
          have cy := st_cell hcy
          have cz := st_cell hcz
          obtain ⟨ct0, ct1⟩ := fm_cells hct
          simp only [trI] at ct0 ct1
          obtain ⟨sm, hsm⟩ : ∃ sm, sm = (s.toList == (l.getD (at' : Int).toNat ByteArray.empty).toList) := ⟨_, rfl⟩
          rw [← hsm] at ct1
          have hsb : bb = true → sm = true := fun hb => by rw [hsm, eq_toList]; exact decide_eq_true (hhm hb)
          have d1 : decide ((at' : Int) < 0) = false := decide_eq_false (by omega)
          have d2 : decide ((l.length : Int) ≤ at') = false := decide_eq_false (by omega)
          have d3 : decide (l.length ≤ at') = false := decide_eq_false (by omega)
          clear hhm hsm hcy hcz hct hLk hTk hgd hit hgy hgz hgt
          cases bb with
          | false =>
            clear hsb
            go_wp2_with fail
            refine wp_region_quiet_tail 37 (by kernel_rfl) (by kernel_rfl) ?_
            simp only [List.take_succ_cons, List.take_zero, List.drop_succ_cons, List.drop_zero]
            repeat (first | go_big_quiet_skip | go_big_quiet_step (fail))
            refine wpQuiet_nil ?_
            intro W8 hw
            obtain ⟨nq, rfl⟩ := hw
            go_wp2_with fail
            go_roundw
            case rel => exact ⟨k + 1, by omega, by go_num, HBW.out.trans ((below_drewN (Below.refl _ _) nq).mono HBW.out.size)⟩
            case measure => simp [intOf]; omega
          | true =>
            obtain rfl := hsb rfl
            clear hsb
            go_wp2_with fail
            refine wp_region_quiet_tail 37 (by kernel_rfl) (by kernel_rfl) ?_
            simp only [List.take_succ_cons, List.take_zero, List.drop_succ_cons, List.drop_zero]
            repeat (first | go_big_quiet_skip | go_big_quiet_step (fail))
            refine wpQuiet_nil ?_
            intro W8 hw
            obtain ⟨nq, rfl⟩ := hw
            go_wp2_with fail
            go_roundw
            case rel => exact ⟨k + 1, by omega, by go_num, HBW.out.trans ((below_drewN (Below.refl _ _) nq).mono HBW.out.size)⟩
            case measure => simp [intOf]; omega
        · go_wp2_with fail
          go_ret
          exact ⟨rfl, HBE.out.trans (HBW.out.mono HBE.out.size)⟩
theorem roadParts_walk (v u u' : Value) (l : List ByteArray) (a b : List Ac) (w : World) (h : Rr w 1 st v l) (h' : Rr w 4 ac u a) (h2 : Rr w 4 ac u' b) (hn : l.length ≤ 9223372036854775807) (hn' : a.length ≤ 9223372036854775807) (hn2 : b.length ≤ 9223372036854775807) (hm : Mx w) :
    Calls Tryd.prog 5 #[v, u, u'] w fun e w' => e = .returned (.bool true) ∧ Below w.heap.size w w' := by
  by_cases hf1 : Fw l a
  · by_cases hf2 : Fw l b
    · by_cases hw1 : wrs a = 0
      · by_cases hw2 : wrs b = 0
        · exact parts_is v u u' l a b w h h' h2 hm hf1 hf2 hw1 hw2
        · exact parts_no4 v u u' l a b w h h' h2 hn hn' hn2 hm hf1 hf2 hw1 hw2
      · exact parts_no3 v u u' l a b w h h' h2 hn hn' hn2 hm hf1 hf2 hw1
    · exact parts_no2 v u u' l a b w h h' h2 hn hn' hn2 hm hf1 hf2
  · exact parts_no1 v u u' l a b w h h' h2 hn hn' hn2 hm hf1
end Go.Proofs.YthoemgiadadfcaaDoor
