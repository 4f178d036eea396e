/- slices.Insert of one packet: its walk. -/
import Derived.Test.YthoemgiadadfcaaDoorRdDel
import Derived.Lib.Overlaps
import Derived.Lib.AppendZeros
import Derived.Lib.AppendZerosOnto
import Derived.Laws.NewBlocks
import Derived.Maps.AppendAt
set_option linter.unusedVariables false
set_option linter.unusedSimpArgs false
namespace Go.Proofs.YthoemgiadadfcaaDoor
open Go.RowKit Go.Sort Rd
theorem heap_setCells (g : Nat) (e : TypeId) : ∀ (vs : List Value) (o : Nat) (w : World) (cur : Array Value), w.heap[g]? = some (.cells cur e (0, 0)) → ∃ cur', (w.setCells g o vs).heap[g]? = some (.cells cur' e (0, 0)) ∧ cur'.size = cur.size
  | [], _, w, cur, h => ⟨cur, h, rfl⟩
  | v :: vs, o, w, cur, h => by
    obtain ⟨cur', h1, h2⟩ := heap_setCells g e vs (o + 1) (w.setCell ⟨g, o, none⟩ v) (cur.setIfInBounds o v) (heap_setCell_same w g o cur e v h)
    exact ⟨cur', h1, by rw [h2]; simp⟩
theorem own_of_cells {w : World} {g n cap k : Nat} {e : TypeId} {cur : Array Value} {ys : List Value} (h : w.heap[g]? = some (.cells cur e (0, 0))) (hs : cur.size = cap * k) (hl : ys.length = n * k) (hn : n ≤ cap) (hc : cap ≤ maxLen)
    (hcell : ∀ j u, ys[j]? = some u → w.cell? ⟨g, j, none⟩ = some u) : w.ownsRow 0 e k (.slice (some ⟨g, 0, none⟩) n cap) n ys := by
  refine ⟨hl, .inr ⟨g, cap, cur, rfl, Nat.zero_le _, h, hn, hc, hs, ?_⟩⟩
  have hnk : n * k ≤ cur.size := by rw [hs]; exact Nat.mul_le_mul_right _ hn
  refine List.ext_getElem? fun j => ?_
  rw [List.getElem?_take]
  by_cases hj : j < n * k
  · rw [if_pos hj]
    have hy : ys[j]? = some (ys[j]'(by omega)) := List.getElem?_eq_getElem (by omega)
    have h1 := hcell j _ hy
    rw [cell_of_row _ _ _ _ e (0, 0) h] at h1
    rw [Array.getElem?_toList, h1, hy]
  · rw [if_neg hj, List.getElem?_eq_none (by omega)]
namespace Rd
def insL {α : Type} (xs : List α) (i : Nat) (x : α) : List α := xs.take i ++ x :: xs.drop i
end Rd
theorem ins_flat {α : Type} {k : Nat} {enc : α → List Value} (hk : ∀ x, (enc x).length = k) (xs : List α) (i : Nat) (x : α) :
    (insL xs i x).flatMap enc = (xs.flatMap enc).take (i * k) ++ (enc x ++ (xs.flatMap enc).drop (i * k)) := by
  unfold insL
  rw [List.flatMap_append, List.flatMap_cons, flat_take hk, flat_drop hk]
/-- The cells behind both copies. -/
theorem ins_cells {W0 W : World} {g i n : Nat} {F ys : List Value} (hF : F.length = n * 2) (hy : ys.length = 2) (hi : i ≤ n)
    (h0 : ∀ j u, F[j]? = some u → j < i * 2 → W0.cell? ⟨g, j, none⟩ = some u)
    (h1 : ∀ j, j < i * 2 → W.cell? ⟨g, j, none⟩ = W0.cell? ⟨g, j, none⟩)
    (h2 : ∀ j (h : j < ys.length), W.cell? ⟨g, i * 2 + j, none⟩ = some (ys[j]'h))
    (h3 : ∀ j (h : j < (F.drop (i * 2)).length), W.cell? ⟨g, (i + 1) * 2 + j, none⟩ = some ((F.drop (i * 2))[j]'h)) :
    ∀ j u, (F.take (i * 2) ++ (ys ++ F.drop (i * 2)))[j]? = some u → W.cell? ⟨g, j, none⟩ = some u := by
  intro j u hu
  have htl : (F.take (i * 2)).length = i * 2 := by rw [List.length_take]; omega
  by_cases hj : j < i * 2
  · rw [List.getElem?_append_left (by omega), List.getElem?_take, if_pos hj] at hu
    rw [h1 j hj, h0 j u hu hj]
  · rw [List.getElem?_append_right (by omega), htl] at hu
    by_cases hj2 : j - i * 2 < ys.length
    · rw [List.getElem?_append_left hj2, List.getElem?_eq_getElem hj2] at hu
      have := h2 _ hj2
      rw [show i * 2 + (j - i * 2) = j by omega] at this
      rw [this, hu]
    · rw [List.getElem?_append_right (by omega)] at hu
      obtain ⟨hlt, he⟩ := List.getElem?_eq_some_iff.1 hu
      have := h3 _ hlt
      rw [show (i + 1) * 2 + (j - i * 2 - ys.length) = j by omega, he] at this
      exact this
theorem run_append_like {P : Program} (w : World) (t t' ty e e' : TypeId) (s x : Value) (ht : P.underlying t = some (.slice e)) (ht' : P.underlying t' = some (.slice e')) :
    (Builtin.append_ #[t, t'] ty #[s, x]).run P w = (Builtin.append_ #[t, t] ty #[s, x]).run P w := by
  unfold Builtin.append_
  cases s <;> simp [run_underlying ht, run_underlying ht', Sem.run_bind]
theorem run_copy_cells_k {P : Program} (w : World) (dT sT ty elem : TypeId) (k b o dLen dCap : Nat) (a : Addr) (sLen sCap m : Nat) (cs : List Value)
    (hu : P.underlying dT = some (.slice elem)) (hs : (P.info? elem).map (·.size) = some k) (hm : m = Nat.min sLen dLen) (hn : cs.length = m * k)
    (hsrc : ∀ j v, cs[j]? = some v → w.cell? (a.add j) = some v) (hc : ∀ j, j < cs.length → (w.cell? ⟨b, o + j, none⟩).isSome = true) (hf : ∀ j, j < cs.length → w.frozen? ⟨b, o + j, none⟩ = false) (h1 : ∀ v ∈ cs, v.oneCell' = true) :
    (Builtin.copy_ #[dT, sT] ty #[.slice (some ⟨b, o, none⟩) dLen dCap, .slice (some a) sLen sCap]).run P w = .ok (goInt m) (w.setCells b o cs) := by
  have hl := run_loadCells_list (P := P) w a cs hsrc
  have hst := run_storeCells_cells (P := P) b o cs 0 w (by simpa using hc) (by simpa using hf) h1
  cases hq : P.info? elem with
  | none => simp [hq] at hs
  | some i =>
    have hi : i.size = k := by simpa [hq] using hs
    simp [Builtin.copy_, run_underlying hu, Builtin.lenOf, Builtin.firstCells, sizeOf, typeInfo, hq, hi, ← hm, ← hn, hl, hst]
theorem wpList_copy_eq {P : Program} (w : World) {ops : Array Oper} {rest : List Oper} {o : Oper} {a : Act} {Q : Exit → Act → World → Prop} (hgd : o.guard = none) (d s : Operand) (t t' : TypeId)
    (ho : o.op = .call { callee := .builtin .copy, args := #[d, s], argTypes := #[t, t'] }) (v u : Value) (hd : a.eval d = v) (hs : a.eval s = u) {v' : Value} {w' : World}
    (hr : (Builtin.copy_ #[t, t'] o.type #[v, u]).run P w = .ok v' w') (h : wpList P ops Q rest (a.put o.dst v') w') : wpList P ops Q (o :: rest) a w := by
  refine wpList_plain hgd fun _ hK => ?_
  unfold Oper.wp execOp
  simp only [ho, resolve, invoke, builtin, Sem.run_bind, Sem.run_pure, Result.andThen_ok, List.map_toArray, List.map_cons, List.map_nil, hd, hs, hr]
  exact hK _ _ h
theorem ins_length {α : Type} (xs : List α) (i : Nat) (x : α) (hi : i ≤ xs.length) : (insL xs i x).length = xs.length + 1 := by
  unfold insL
  rw [List.length_append, List.length_cons, List.length_take, List.length_drop]
  omega
/-- What the insertion leaves. -/
def Insd (w : World) (g : Nat) (xs : List It) (i : Nat) (it : It) (e : Ending) (w' : World) : Prop := ∃ v', e = .returned v' ∧ Rw w' 59 2 lc v' (insL xs i it) ∧ Keep w w' [g] ∧ ∀ j ∈ foot v', j = g ∨ w.heap.size ≤ j
set_option maxRecDepth 100000 in
set_option maxHeartbeats 1600000 in
theorem insert_end (g n cap q : Nat) (xs : List It) (it : It) (w : World) (h : Rw w 59 2 lc (.slice (some ⟨g, 0, none⟩) n cap) xs) (hl : xs.length = n) (h0 : 1 ≤ n) (hn : n ≤ 100000)
    (hq : w.heap[q]? = some (.cells #[.string it.1, .int .i64 it.2] 59 (0, 0))) (hqg : q ≠ g) :
    Calls Tryd.prog 43 #[.slice (some ⟨g, 0, none⟩) n cap, .int .i64 n, .slice (some ⟨q, 0, none⟩) 1 1] w (Insd w g xs n it) := by
  obtain ⟨i0, hin, hzz⟩ := Option.map_eq_some_iff.1 info59
  simp only [Prod.mk.injEq] at hzz
  obtain ⟨hz0, hz1, hz2⟩ := hzz
  have hcap : n ≤ cap := by
    obtain ⟨g', cap', e, h2⟩ := h.form (by omega)
    injection e with e1 e2 e3
    omega
  have hnews : ∀ j u, [Value.string it.1, .int .i64 it.2][j]? = some u → w.cell? ((⟨q, 0, none⟩ : Addr).add j) = some u := World.news_of_block (cs := #[.string it.1, .int .i64 it.2]) (t := 59) (fr := (0, 0)) hq
  unfold Rw at h
  rw [hl] at h
  obtain ⟨v', w', hr, hown, hg, _, hat⟩ := run_append_own_at (P := Tryd.prog) w 0 55 55 59 i0 _ 2 24 Tryd.underlying55 hin hz0 hz1 hz2 rfl (by omega) (.slice (some ⟨g, 0, none⟩) n cap) n _ h ⟨q, 0, none⟩ 1 1 [.string it.1, .int .i64 it.2] rfl hnews (by simp; exact ⟨rfl, rfl⟩) (by simp only [maxLen]; omega) (by omega) (Nat.zero_le _)
  rw [← run_append_like w 55 54 55 59 59 _ _ Tryd.underlying55 Tryd.underlying54] at hr
  have HF : Hid (Insd w g xs n it (.returned v') w') := by
    refine ⟨v', rfl, ?_, Keep.of_gb hg, fun j hj => ?_⟩
    · unfold Rw
      rw [ins_length xs n it (by omega), ins_flat lc_length, hl, List.take_of_length_le (by rw [flat_length lc_length, hl]; exact Nat.le_refl _), List.drop_of_length_le (by rw [flat_length lc_length, hl]; exact Nat.le_refl _), List.append_nil]
      exact hown
    · rcases hat with hat | hat
      · left
        unfold foot at hj
        rw [hat] at hj
        simpa [Value.ownBlock] using hj
      · right
        unfold foot at hj
        rw [hat] at hj
        simp at hj
        omega
  clear hown hg hat h hnews
  go_enter Tryd.func43, Tryd.ntmps43
  go_wp2_with (at_builtin; refine Lib.wpList_append_run _ rfl _ _ _ _ rfl _ _ rfl rfl _ _ hr ?_)
  all_goals
    go_ret
    exact HF.out
theorem Rw.block {α : Type} {w : World} {e : TypeId} {k : Nat} {enc : α → List Value} {g n cap : Nat} {xs : List α} (h : Rw w e k enc (.slice (some ⟨g, 0, none⟩) n cap) xs) : ∃ cur, w.heap[g]? = some (.cells cur e (0, 0)) ∧ cur.size = cap * k ∧ n ≤ cap ∧ cap ≤ maxLen := by
  rcases h.2 with ⟨h', _⟩ | ⟨g', cap', cur, h', _, hh, h1, h2, h3, _⟩
  · cases h'
  · injection h' with e1 e2 e3
    injection e1 with e1
    injection e1 with e1
    subst e1; subst e3
    exact ⟨cur, hh, h3, by omega, h2⟩
theorem Keep.dN (w : World) (k : Nat) (F : List Nat) : Keep w (w.drewN k) F := Keep.of_below (⟨rfl, rfl, rfl, Nat.le_refl _, fun _ _ => rfl⟩ : Below w.heap.size w (w.drewN k)) F
set_option maxRecDepth 100000 in
set_option maxHeartbeats 1600000 in
theorem insert_shift (g n cap q i : Nat) (xs : List It) (it : It) (w : World) (h : Rw w 59 2 lc (.slice (some ⟨g, 0, none⟩) n cap) xs) (hl : xs.length = n) (h0 : 1 ≤ i) (hi : i < n) (hn : n ≤ 100000) (hroom : n + 1 ≤ cap)
    (hq : w.heap[q]? = some (.cells #[.string it.1, .int .i64 it.2] 59 (0, 0))) (hqg : q ≠ g) :
    Calls Tryd.prog 43 #[.slice (some ⟨g, 0, none⟩) n cap, .int .i64 i, .slice (some ⟨q, 0, none⟩) 1 1] w (Insd w g xs i it) := by
  obtain ⟨i0, hin, hzz⟩ := Option.map_eq_some_iff.1 info59
  simp only [Prod.mk.injEq] at hzz
  obtain ⟨hz0, hz1, hz2⟩ := hzz
  obtain ⟨cur, hcur, hcs, _, hcm⟩ := h.block
  have hfl : (xs.flatMap lc).length = n * 2 := by rw [flat_length lc_length, hl]
  have hDl : ((xs.flatMap lc).drop (i * 2)).length = (n - i) * 2 := by rw [List.length_drop, hfl]; omega
  have hone : ∀ u ∈ (xs.flatMap lc).drop (i * 2), u.oneCell' = true := fun u hu => by
    have := List.mem_of_mem_drop hu
    obtain ⟨x, _, hx⟩ := List.mem_flatMap.1 this
    simp [lc] at hx
    rcases hx with rfl | rfl <;> rfl
  have hsz : (Tryd.prog.info? 59).map (·.size) = some 2 := by rw [hin]; simp [hz1]
  have hso : ∀ w, (Go.sizeOf 59).run Tryd.prog w = .ok 2 w := fun w => by simp [Go.sizeOf, typeInfo, hin, hz1]
  have hov : ∀ lb cb, (callFunc 48 #[.slice (some ⟨q, 0, none⟩) 1 1, .slice (some ⟨g, (i + 1) * 2, none⟩) lb cb]).run Tryd.prog w = .ok (.value (.bool false)) w := fun lb cb => by
    rw [run_callFunc_extern Tryd.func48 (by kernel_rfl) (by kernel_rfl) (by kernel_rfl) (e := Extern.SlicesOverlaps.overlaps #[54, 54] #[4]) (by kernel_rfl),
      Lib.run_overlaps_apart w 54 4 59 Tryd.underlying54 2 hso ⟨q, 0, none⟩ ⟨g, (i + 1) * 2, none⟩ 1 1 lb cb hqg 59 59 2 cur.size (by simp [World.shape?, hq]) (by simp [World.shape?, hcur]) (by rw [hcs]; omega) (by simp [World.frozen?, hq]) (by simp [World.frozen?, hq])]
    rfl
  have hcl : ∀ j, j < cur.size → (w.cell? ⟨g, j, none⟩).isSome = true := fun j hj => by
    rw [cell_of_row _ _ _ _ 59 (0, 0) hcur, Array.getElem?_eq_getElem hj]; rfl
  have hcp1 : Hid (∀ k ty dc sc, (Builtin.copy_ #[55, 55] ty #[.slice (some ⟨g, (i + 1) * 2, none⟩) (n + 1 - (i + 1)) dc, .slice (some ⟨g, i * 2, none⟩) (n + 1 - i) sc]).run Tryd.prog (w.drewN k) = .ok (goInt ((n - i : Nat) : Int)) ((w.drewN k).setCells g ((i + 1) * 2) ((xs.flatMap lc).drop (i * 2)))) := fun k ty dc sc =>
    run_copy_cells_k (w.drewN k) 55 55 ty 59 2 g ((i + 1) * 2) (n + 1 - (i + 1)) dc ⟨g, i * 2, none⟩ (n + 1 - i) sc (n - i) _ Tryd.underlying55 hsz (by simp only [Nat.min_def]; split <;> omega) hDl
      (fun j v hj => by rw [List.getElem?_drop] at hj; rw [Addr.add_lit]; exact h.cells _ v hj)
      (fun j hj => hcl _ (by rw [hDl] at hj; rw [hcs]; omega)) (fun j hj => by exact h.free _) hone
  have hcp2 : Hid (∀ k ty dc, (Builtin.copy_ #[55, 54] ty #[.slice (some ⟨g, i * 2, none⟩) (n + 1 - i) dc, .slice (some ⟨q, 0, none⟩) 1 1]).run Tryd.prog ((w.drewN k).setCells g ((i + 1) * 2) ((xs.flatMap lc).drop (i * 2))) = .ok (goInt 1) (((w.drewN k).setCells g ((i + 1) * 2) ((xs.flatMap lc).drop (i * 2))).setCells g (i * 2) (lc it))) := fun k ty dc => by
    obtain ⟨cur1, hcur1, hcs1⟩ := heap_setCells g 59 ((xs.flatMap lc).drop (i * 2)) ((i + 1) * 2) (w.drewN k) cur hcur
    refine run_copy_cells_k _ 55 54 ty 59 2 g (i * 2) (n + 1 - i) dc ⟨q, 0, none⟩ 1 1 1 (lc it) Tryd.underlying55 hsz (by simp only [Nat.min_def]; split <;> omega) rfl
      (fun j v hj => ?_) (fun j hj => ?_) (fun j hj => by simp [World.frozen?, hcur1]) (fun u hu => ?_)
    · rw [Addr.add_lit, World.cell?_setCells_out g _ _ _ _ (fun h _ => absurd h hqg)]
      have h9 := World.news_of_block (cs := #[.string it.1, .int .i64 it.2]) (t := 59) (fr := (0, 0)) (w := w) hq j v hj
      rw [Addr.add_lit] at h9
      exact h9
    · rw [lc_length] at hj
      rw [cell_of_row _ _ _ _ 59 (0, 0) hcur1, Array.getElem?_eq_getElem (by rw [hcs1, hcs]; omega)]; rfl
    · simp [lc] at hu
      rcases hu with rfl | rfl <;> rfl
  have HF : Hid (∀ k, Insd w g xs i it (.returned (.slice (some ⟨g, 0, none⟩) (n + 1) cap)) (((w.drewN k).setCells g ((i + 1) * 2) ((xs.flatMap lc).drop (i * 2))).setCells g (i * 2) (lc it))) := fun k => by
    refine ⟨_, rfl, ?_, ((Keep.dN w k [g]).trans (Keep.setCells _ _ _ _ _ (by simp))).trans (Keep.setCells _ _ _ _ _ (by simp)), fun j hj => .inl (by simpa [foot_slice] using hj)⟩
    obtain ⟨cur1, hcur1, hcs1⟩ := heap_setCells g 59 ((xs.flatMap lc).drop (i * 2)) ((i + 1) * 2) (w.drewN k) cur hcur
    obtain ⟨cur2, hcur2, hcs2⟩ := heap_setCells g 59 (lc it) (i * 2) _ cur1 hcur1
    unfold Rw
    rw [ins_length xs i it (by omega), ins_flat lc_length, hl]
    refine own_of_cells hcur2 (by rw [hcs2, hcs1, hcs]) (by rw [List.length_append, List.length_append, List.length_take, hfl, hDl, lc_length]; omega) hroom hcm ?_
    refine ins_cells (W0 := w) (i := i) (n := n) hfl (lc_length it) (by omega) (fun j u hj _ => h.cells _ _ hj) (fun j hj => ?_) (fun j hj => ?_) (fun j hj => ?_)
    · rw [World.cell?_setCells_out g _ _ _ _ (fun _ _ => .inl hj), World.cell?_setCells_out g _ _ _ _ (fun _ _ => .inl (by show j < _; omega))]; rfl
    · refine World.cell?_setCells_in g _ _ _ (fun j hj => ?_) j hj
      rw [lc_length] at hj
      rw [cell_of_row _ _ _ _ 59 (0, 0) hcur1, Array.getElem?_eq_getElem (by rw [hcs1, hcs]; omega)]; rfl
    · rw [World.cell?_setCells_out g _ _ _ _ (fun _ _ => .inr (by show i * 2 + 2 ≤ (i + 1) * 2 + j; omega))]
      exact World.cell?_setCells_in g ((xs.flatMap lc).drop (i * 2)) ((i + 1) * 2) (w.drewN k) (fun j hj => hcl _ (by rw [hDl] at hj; rw [hcs]; omega)) j hj
  have H := Lib.hid h
  have hne : ¬ ((i : Int) = (n : Int)) := by omega
  have hle : (i : Int) ≤ (n : Int) := by omega
  have hca : ¬ (cap = i) := by omega
  have hcb : ¬ (cap = i + 1) := by omega
  clear h hl hfl hDl hone hsz hso hcl hcs hcur hcm hq hz0 hz1 hz2 hin
  generalize (xs.flatMap lc).drop (i * 2) = D at *
  generalize lc it = Y at *
  go_enter Tryd.func43, Tryd.ntmps43
  go_wp2_with (simp only [hov])
  refine wp_region_quiet_tail 8 (by kernel_rfl) (by kernel_rfl) ?_
  simp only [List.take_succ_cons, List.take_zero, List.drop_succ_cons, List.drop_zero]
  repeat (go_big_quiet_step (fail))
  refine wpQuiet_nil ?_
  intro W8 hw
  obtain ⟨nq, rfl⟩ := hw
  refine wpList_copy_eq _ rfl _ _ 55 55 rfl (.slice (some ⟨g, (i + 1) * 2, none⟩) (n + 1 - (i + 1)) (cap - (i + 1))) (.slice (some ⟨g, i * 2, none⟩) (n + 1 - i) (cap - i)) (by simp [Act.eval, Act.put]) (by simp [Act.eval, Act.put]) (hcp1.out nq _ _ _) ?_
  have hcp := hcp2.out nq
  have HF2 := Lib.hid (HF.out nq)
  clear HF hcp1 hcp2 hov
  generalize ((w.drewN nq).setCells g ((i + 1) * 2) D) = W2 at *
  generalize (W2.setCells g (i * 2) Y) = W3 at *
  go_wp2_with (with_reducible refine wpList_copy_eq _ rfl _ _ 55 54 rfl _ _ rfl rfl (hcp _ _) ?_)
  go_ret
  exact HF2.out
set_option maxRecDepth 100000 in
set_option maxHeartbeats 1600000 in
theorem insert_grow (g n cap q i : Nat) (xs : List It) (it : It) (w : World) (h : Rw w 59 2 lc (.slice (some ⟨g, 0, none⟩) n cap) xs) (hl : xs.length = n) (h0 : 1 ≤ i) (hi : i < n) (hn : n ≤ 100000) (hroom : cap < n + 1)
    (hq : w.heap[q]? = some (.cells #[.string it.1, .int .i64 it.2] 59 (0, 0))) (hqg : q ≠ g) :
    Calls Tryd.prog 43 #[.slice (some ⟨g, 0, none⟩) n cap, .int .i64 i, .slice (some ⟨q, 0, none⟩) 1 1] w (Insd w g xs i it) := by
  obtain ⟨i0, hin, hzz⟩ := Option.map_eq_some_iff.1 info59
  simp only [Prod.mk.injEq] at hzz
  obtain ⟨hz0, hz1, hz2⟩ := hzz
  obtain ⟨cur, hcur, hcs, hnc, hcm⟩ := h.block
  have hbw : g < w.heap.size := (Array.getElem?_eq_some_iff.1 hcur).1
  have hqw : q < w.heap.size := (Array.getElem?_eq_some_iff.1 hq).1
  have hfl : (xs.flatMap lc).length = n * 2 := by rw [flat_length lc_length, hl]
  have hDl : ((xs.flatMap lc).drop (i * 2)).length = (n - i) * 2 := by rw [List.length_drop, hfl]; omega
  have hone : ∀ u ∈ (xs.flatMap lc).drop (i * 2), u.oneCell' = true := fun u hu => by
    have := List.mem_of_mem_drop hu
    obtain ⟨x, _, hx⟩ := List.mem_flatMap.1 this
    simp [lc] at hx
    rcases hx with rfl | rfl <;> rfl
  have hsz : (Tryd.prog.info? 59).map (·.size) = some 2 := by rw [hin]; simp [hz1]
  have hik : i + (n + 1 - i) = n + 1 := by omega
  have hold : (Builtin.firstCells i0.size i (.slice (some ⟨g, 0, none⟩) i cap)).run Tryd.prog w.drew = .ok ((xs.flatMap lc).take (i * 2)).toArray w.drew := by
    rw [hz1]
    exact run_firstCells_some w.drew 2 i ⟨g, 0, none⟩ i cap ((xs.flatMap lc).take (i * 2)) (by rw [List.length_take, hfl]; omega) (fun j v hj => by
      rw [Addr.add_lit, Nat.zero_add]
      rw [List.getElem?_take] at hj
      split at hj
      · exact h.cells j v hj
      · cases hj)
  obtain ⟨G, hG⟩ : ∃ G, G = grownCap w (n + 1) cap 59 := ⟨_, rfl⟩
  obtain ⟨ROW, hROW⟩ : ∃ ROW : Array Value, ROW = ((xs.flatMap lc).take (i * 2)).toArray ++ Builtin.zeroCells (Value.agg #[.string ⟨#[]⟩, .int .i64 0]).cells (n + 1 - i) ++ Builtin.zeroCells (Value.agg #[.string ⟨#[]⟩, .int .i64 0]).cells (G - (n + 1)) := ⟨_, rfl⟩
  obtain ⟨W1, hW1⟩ : ∃ W1, W1 = w.drew.alloc (.cells ROW 59) := ⟨_, rfl⟩
  have hGn : n + 1 ≤ G := by rw [hG]; exact grownCap_ge w _ _ _
  have hG63 : G ≤ maxLen := by
    have := grownCap_le_maxLen w (n + 1) cap 59 (by unfold maxLen; omega)
    rw [← hG] at this
    exact this
  have hrz : ∀ ty, (Builtin.append_ #[55, 3] ty #[.slice (some ⟨g, 0, none⟩) i cap, .int .i64 ((n : Int) + 1 - (i : Int))]).run Tryd.prog w = .ok (.slice (some ⟨w.heap.size, 0, none⟩) (n + 1) G) W1 := fun ty => by
    have h := Lib.run_append_grow_zeros w 55 3 ty 59 i0 _ .i64 .i64 Tryd.underlying55 Tryd.underlying3 hin hz0 (some ⟨g, 0, none⟩) i cap _ hold (n + 1 - i) (by omega) (by omega) (by omega) (by omega) (by rw [hz2]; omega) (by rw [hz2, hik]; exact growslice_fits hroom (by omega))
    rw [hik, ← hG, ← hROW, ← hW1] at h
    rw [show (n : Int) + 1 - (i : Int) = ((n + 1 - i : Nat) : Int) by omega]
    exact h
  have hRl : ROW.size = G * 2 := by
    rw [hROW]
    simp only [Array.size_append, List.size_toArray, List.length_take, hfl, Builtin.zeroCells, Value.cells, Array.size_map, Array.size_range]
    show min (i * 2) (n * 2) + (n + 1 - i) * 2 + (G - (n + 1)) * 2 = G * 2
    omega
  have hN0 : W1.heap[w.heap.size]? = some (.cells ROW 59 (0, 0)) := by rw [hW1]; exact heap_alloc_new w.drew _
  have hNc : ∀ j, j < G * 2 → (W1.cell? ⟨w.heap.size, j, none⟩).isSome = true := fun j hj => by
    rw [cell_of_row _ _ _ _ 59 (0, 0) hN0, Array.getElem?_eq_getElem (by omega)]; rfl
  have hB1 : Below w.heap.size w W1 := by rw [hW1]; exact ((Below.refl _ w).drew).alloc (Nat.le_refl _) _
  have hNt : ∀ j u, (xs.flatMap lc)[j]? = some u → j < i * 2 → W1.cell? ⟨w.heap.size, j, none⟩ = some u := fun j u hj hji => by
    rw [cell_of_row _ _ _ _ 59 (0, 0) hN0, hROW]
    have hlt : j < ((xs.flatMap lc).take (i * 2)).toArray.size := by simp [hfl]; omega
    rw [Array.getElem?_append_left (by rw [Array.size_append]; omega), Array.getElem?_append_left hlt, List.getElem?_toArray, List.getElem?_take, if_pos hji, hj]
  have hcpA : Hid (∀ ty dc, (Builtin.copy_ #[55, 54] ty #[.slice (some ⟨w.heap.size, i * 2, none⟩) (n + 1 - i) dc, .slice (some ⟨q, 0, none⟩) 1 1]).run Tryd.prog W1 = .ok (goInt 1) (W1.setCells w.heap.size (i * 2) (lc it))) := fun ty dc =>
    run_copy_cells_k _ 55 54 ty 59 2 w.heap.size (i * 2) (n + 1 - i) dc ⟨q, 0, none⟩ 1 1 1 (lc it) Tryd.underlying55 hsz (by simp only [Nat.min_def]; split <;> omega) rfl
      (fun j v hj => by
        have h9 := World.news_of_block (cs := #[.string it.1, .int .i64 it.2]) (t := 59) (fr := (0, 0)) (w := w) hq j v hj
        rw [Addr.add_lit] at h9 ⊢
        exact (hB1.cell (p := ⟨q, 0 + j, none⟩) hqw).trans h9)
      (fun j hj => by rw [lc_length] at hj; exact hNc _ (by omega)) (fun j hj => by
        have : W1.frozen? ⟨w.heap.size, i * 2 + j, none⟩ = false := by simp [World.frozen?, hN0]
        exact this) (fun u hu => by
        simp [lc] at hu
        rcases hu with rfl | rfl <;> rfl)
  have hcpB : Hid (∀ l ty dc sc, (Builtin.copy_ #[55, 55] ty #[.slice (some ⟨w.heap.size, (i + 1) * 2, none⟩) (n + 1 - (i + 1)) dc, .slice (some ⟨g, i * 2, none⟩) (n - i) sc]).run Tryd.prog ((W1.setCells w.heap.size (i * 2) (lc it)).drewN l) = .ok (goInt ((n - i : Nat) : Int)) (((W1.setCells w.heap.size (i * 2) (lc it)).drewN l).setCells w.heap.size ((i + 1) * 2) ((xs.flatMap lc).drop (i * 2)))) := fun l ty dc sc => by
    obtain ⟨cur1, hcur1, hcs1⟩ := heap_setCells w.heap.size 59 (lc it) (i * 2) W1 ROW hN0
    have hcur1' : ((W1.setCells w.heap.size (i * 2) (lc it)).drewN l).heap[w.heap.size]? = some (.cells cur1 59 (0, 0)) := hcur1
    refine run_copy_cells_k _ 55 55 ty 59 2 w.heap.size ((i + 1) * 2) (n + 1 - (i + 1)) dc ⟨g, i * 2, none⟩ (n - i) sc (n - i) _ Tryd.underlying55 hsz (by simp only [Nat.min_def]; split <;> omega) hDl
      (fun j v hj => ?_) (fun j hj => ?_) (fun j hj => by simp [World.frozen?, hcur1]) hone
    · rw [List.getElem?_drop] at hj
      rw [Addr.add_lit]
      have h1 : (W1.setCells w.heap.size (i * 2) (lc it)).cell? ⟨g, i * 2 + j, none⟩ = some v := by
        rw [World.cell?_setCells_out _ _ _ _ _ (fun h _ => by have : g = w.heap.size := h; omega)]
        exact (hB1.cell (p := ⟨g, i * 2 + j, none⟩) hbw).trans (h.cells _ v hj)
      exact h1
    · rw [hDl] at hj
      rw [cell_of_row _ _ _ _ 59 (0, 0) hcur1', Array.getElem?_eq_getElem (by omega)]; rfl
  have HF : Hid (∀ l, Insd w g xs i it (.returned (.slice (some ⟨w.heap.size, 0, none⟩) (n + 1) G)) (((W1.setCells w.heap.size (i * 2) (lc it)).drewN l).setCells w.heap.size ((i + 1) * 2) ((xs.flatMap lc).drop (i * 2)))) := fun l => by
    have hk0 : Keep w W1 [w.heap.size, g] := Keep.of_below hB1 _
    have hk1 := ((hk0.trans (Keep.setCells _ w.heap.size (lc it) (i * 2) [w.heap.size, g] (by simp))).trans (Keep.dN _ l _)).trans (Keep.setCells _ w.heap.size ((xs.flatMap lc).drop (i * 2)) ((i + 1) * 2) [w.heap.size, g] (by simp))
    refine ⟨_, rfl, ?_, ⟨hk1.os, hk1.tape, hk1.output, hk1.size, fun j hj hn => hk1.block j hj (by intro hm; rw [List.mem_cons, List.mem_singleton] at hm; rcases hm with hm | hm; exact absurd hj (by omega); exact hn (by rw [List.mem_singleton]; exact hm))⟩, fun j hj => .inr (by simp [foot_slice] at hj; omega)⟩
    obtain ⟨cur1, hcur1, hcs1⟩ := heap_setCells w.heap.size 59 (lc it) (i * 2) W1 ROW hN0
    have hcur1' : ((W1.setCells w.heap.size (i * 2) (lc it)).drewN l).heap[w.heap.size]? = some (.cells cur1 59 (0, 0)) := hcur1
    obtain ⟨cur2, hcur2, hcs2⟩ := heap_setCells w.heap.size 59 ((xs.flatMap lc).drop (i * 2)) ((i + 1) * 2) _ cur1 hcur1'
    unfold Rw
    rw [ins_length xs i it (by omega), ins_flat lc_length, hl]
    refine own_of_cells hcur2 (by rw [hcs2, hcs1, hRl]) (by rw [List.length_append, List.length_append, List.length_take, hfl, hDl, lc_length]; omega) hGn hG63 ?_
    refine ins_cells (W0 := W1) (i := i) (n := n) hfl (lc_length it) (by omega) hNt (fun j hj => ?_) (fun j hj => ?_) (fun j hj => ?_)
    · rw [World.cell?_setCells_out _ _ _ _ _ (fun _ _ => .inl (by show j < _; omega))]
      show (W1.setCells w.heap.size (i * 2) (lc it)).cell? ⟨w.heap.size, j, none⟩ = _
      rw [World.cell?_setCells_out _ _ _ _ _ (fun _ _ => .inl hj)]
    · rw [World.cell?_setCells_out _ _ _ _ _ (fun _ _ => .inl (by rw [lc_length] at hj; show i * 2 + j < (i + 1) * 2; omega))]
      show (W1.setCells w.heap.size (i * 2) (lc it)).cell? ⟨w.heap.size, i * 2 + j, none⟩ = _
      exact World.cell?_setCells_in w.heap.size (lc it) (i * 2) W1 (fun j hj => by rw [lc_length] at hj; exact hNc _ (by omega)) j hj
    · refine World.cell?_setCells_in w.heap.size ((xs.flatMap lc).drop (i * 2)) ((i + 1) * 2) _ (fun j hj => ?_) j hj
      rw [hDl] at hj
      rw [cell_of_row _ _ _ _ 59 (0, 0) hcur1', Array.getElem?_eq_getElem (by omega)]; rfl
  have hne : ¬ ((i : Int) = (n : Int)) := by omega
  have hle : (i : Int) ≤ (n : Int) := by omega
  have hca : ¬ (cap = i) := by omega
  have hGi : ¬ (G = i) := by omega
  have hGi1 : ¬ (G = i + 1) := by omega
  have HM := Lib.hid hG63
  have hG9 : G ≤ 9223372036854775807 := hG63
  clear h hl hfl hDl hone hsz hcs hcur hcm hq hz0 hz1 hz2 hin hG hROW hW1 hG63 hRl hN0 hNc hB1 hNt hold
  generalize (xs.flatMap lc).drop (i * 2) = D at *
  generalize lc it = Y at *
  generalize w.heap.size = nb at *
  go_enter Tryd.func43, Tryd.ntmps43
  go_wp2_with (first | (at_builtin; refine Lib.wpList_append_run _ rfl _ _ _ _ rfl _ _ rfl rfl _ _ (hrz _) ?_) | (with_reducible refine wpList_copy_eq _ rfl _ _ 55 54 rfl _ _ rfl rfl (hcpA.out _ _) ?_))
  simp only [Act.put, List.setIfInBounds_toArray, List.set_cons_succ, List.set_cons_zero]
  refine wp_region_quiet_tail 8 (by kernel_rfl) (by kernel_rfl) ?_
  simp only [List.take_succ_cons, List.take_zero, List.drop_succ_cons, List.drop_zero]
  repeat (go_big_quiet_step (fail))
  refine wpQuiet_nil ?_
  intro W8 hw
  obtain ⟨nq, rfl⟩ := hw
  refine wpList_copy_eq _ rfl _ _ 55 55 rfl (.slice (some ⟨nb, (i + 1) * 2, none⟩) (n + 1 - (i + 1)) (G - (i + 1))) (.slice (some ⟨g, i * 2, none⟩) (n - i) (cap - i)) (by simp [Act.eval, Act.put]) (by simp [Act.eval, Act.put]) (hcpB.out nq _ _ _) ?_
  have HF2 := Lib.hid (HF.out nq)
  clear HF hcpA hcpB hrz
  generalize (((W1.setCells nb (i * 2) Y).drewN nq).setCells nb ((i + 1) * 2) D) = W2 at *
  go_wp2_with fail
  go_ret
  exact HF2.out
theorem insert_is (g n cap q i : Nat) (xs : List It) (it : It) (w : World) (h : Rw w 59 2 lc (.slice (some ⟨g, 0, none⟩) n cap) xs) (hl : xs.length = n) (h0 : 1 ≤ i) (hi : i ≤ n) (hn : n ≤ 100000)
    (hq : w.heap[q]? = some (.cells #[.string it.1, .int .i64 it.2] 59 (0, 0))) (hqg : q ≠ g) :
    Calls Tryd.prog 43 #[.slice (some ⟨g, 0, none⟩) n cap, .int .i64 i, .slice (some ⟨q, 0, none⟩) 1 1] w (Insd w g xs i it) := by
  by_cases h1 : i = n
  · subst h1
    exact insert_end g i cap q xs it w h hl h0 hn hq hqg
  · by_cases h2 : n + 1 ≤ cap
    · exact insert_shift g n cap q i xs it w h hl h0 (by omega) hn h2 hq hqg
    · exact insert_grow g n cap q i xs it w h hl h0 (by omega) hn (by omega) hq hqg
end Go.Proofs.YthoemgiadadfcaaDoor
