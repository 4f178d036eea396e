/- slices.Delete of one packet: its walk. -/
import Derived.Test.YthoemgiadadfcaaDoorRdRow
import Derived.Test.YthoemgiadadfcaaDoorBelowTail
import Derived.Deep.Cut
import Derived.Deep.DeepCutAuto
import Derived.Laws.IdiomCopy
set_option linter.unusedVariables false
set_option linter.unusedSimpArgs false
namespace Go.Proofs.YthoemgiadadfcaaDoor
open Go.RowKit Go.Sort Rd
theorem info59 : (Tryd.prog.info? 59).map (fun i => (i.zero, i.size, i.bytes)) = some (some (.agg #[.string ⟨#[]⟩, .int .i64 0]), 2, 24) := by kernel_rfl
theorem zero59 (w : World) : (zeroValue 59).run Tryd.prog w = .ok (.agg #[.string ⟨#[]⟩, .int .i64 0]) w := zero_val (by kernel_rfl) w
theorem Keep.setCells (w : World) (b : Nat) (vs : List Value) (o : Nat) (F : List Nat) (h : b ∈ F) : Keep w (w.setCells b o vs) F := by
  induction vs generalizing w o with
  | nil => exact Keep.refl _ _
  | cons v vs ih => exact (Keep.setCell w ⟨b, o, none⟩ v F h).trans (ih _ _)
/-- clear of one element of two cells. -/
theorem run_clear1 (w : World) (ty : TypeId) (b o c : Nat) (hc : ∀ j, j < 2 → (w.cell? ⟨b, o + j, none⟩).isSome = true) (hf : ∀ j, j < 2 → w.frozen? ⟨b, o + j, none⟩ = false) :
    (Builtin.clear_ #[55] ty #[.slice (some ⟨b, o, none⟩) 1 c]).run Tryd.prog w = .ok (.tuple #[]) (w.setCells b o [.string ⟨#[]⟩, .int .i64 0]) := by
  have hst := run_storeCells_cells (P := Tryd.prog) b o [.string ⟨#[]⟩, .int .i64 0] 0 w (by simpa using hc) (by simpa using hf) (by simp [Value.oneCell'])
  simp only [Nat.add_zero] at hst
  have hz : (Builtin.zeroCells (Value.agg #[.string ⟨#[]⟩, .int .i64 0]).cells 1).toList = [.string ⟨#[]⟩, .int .i64 0] := by
    simp [Builtin.zeroCells, Value.cells, List.range_succ, Array.range]
    try rfl
  simp [Builtin.clear_, run_underlying Tryd.underlying55, zero59, hz, hst]
set_option maxRecDepth 100000 in
set_option maxHeartbeats 1600000 in
theorem delete_is (g n cap i : Nat) (xs : List It) (w : World) (h : Rw w 59 2 lc (.slice (some ⟨g, 0, none⟩) n cap) xs) (hl : xs.length = n) (hi : i < n) (hn : n ≤ 100000) :
    Calls Tryd.prog 42 #[.slice (some ⟨g, 0, none⟩) n cap, .int .i64 i, .int .i64 ((i + 1 : Nat) : Int)] w fun e w' => e = .returned (.slice (some ⟨g, 0, none⟩) (n - 1) cap) ∧ Rw w' 59 2 lc (.slice (some ⟨g, 0, none⟩) (n - 1) cap) (xs.eraseIdx i) ∧ Keep w w' [g] := by
  obtain ⟨_, hcap⟩ : True ∧ n ≤ cap := ⟨trivial, by
    obtain ⟨g', cap', e, h2⟩ := h.form (by omega)
    injection e with e1 e2 e3
    omega⟩
  have hi1 : i + 1 ≤ n := by omega
  have hi1' : (i : Int) + 1 ≤ (n : Int) := by omega
  have hne : ¬ (i : Int) = (i : Int) + 1 := by omega
  have hne2 : ¬ n = i := by omega
  have hi0 : (i : Int) ≤ (n : Int) := by omega
  obtain ⟨i0, hin, hzz⟩ := Option.map_eq_some_iff.1 info59
  simp only [Prod.mk.injEq] at hzz
  have hz1 := hzz.2.1
  have hfl := flat_length lc_length xs
  have hnl : ((xs.flatMap lc).drop ((i + 1) * 2)).length = (n - (i + 1)) * 2 := by rw [List.length_drop, hfl, hl]; omega
  have hcap2 : cap ≤ maxLen ∧ w.ownsRow 0 59 2 (.slice (some ⟨g, 0, none⟩) i cap) i ((xs.flatMap lc).take (i * 2)) := by
    rcases h.2 with ⟨h1, _⟩ | ⟨g', cap', cur, e, hb, hh, h1, h2, h3, h4⟩
    · cases h1
    · injection e with e1 e2 e3
      injection e1 with e1
      injection e1 with e1
      subst e1; subst e3
      refine ⟨h2, by rw [List.length_take, hfl, hl]; omega, .inr ⟨g, cap, cur, rfl, hb, hh, by omega, h2, h3, ?_⟩⟩
      rw [← h4, List.take_take, hl]
      congr 1; omega
  have hone : ∀ u ∈ (xs.flatMap lc).drop ((i + 1) * 2), u.oneCell' = true := fun u hu => by
    have := List.mem_of_mem_drop hu
    obtain ⟨x, _, hx⟩ := List.mem_flatMap.1 this
    simp [lc] at hx
    rcases hx with rfl | rfl <;> rfl
  have hres : ((xs.flatMap lc).take (i * 2) ++ (xs.flatMap lc).drop ((i + 1) * 2)) = (xs.eraseIdx i).flatMap lc := by
    rw [List.eraseIdx_eq_take_drop_succ, List.flatMap_append, flat_take lc_length, flat_drop lc_length]
  have hrl : (xs.eraseIdx i).length = n - 1 := by rw [List.length_eraseIdx, if_pos (by omega), hl]
  have hsz : ∀ j, j < n * 2 → (w.cell? ⟨g, j, none⟩).isSome = true := fun j hj => by
    have hj2 : j < (xs.flatMap lc).length := by rw [hfl, hl]; exact hj
    rw [h.cells j _ (List.getElem?_eq_getElem hj2)]; rfl
  have HCL : Hid (∀ W1 : World, W1.ownsRow 0 59 2 (.slice (some ⟨g, 0, none⟩) (i + (n - (i + 1))) cap) (i + (n - (i + 1))) ((xs.flatMap lc).take (i * 2) ++ (xs.flatMap lc).drop ((i + 1) * 2)) →
      (∀ ty c, (Builtin.clear_ #[55] ty #[.slice (some ⟨g, (n - 1) * 2, none⟩) 1 c]).run Tryd.prog W1 = .ok (.tuple #[]) (W1.setCells g ((n - 1) * 2) [.string ⟨#[]⟩, .int .i64 0])) ∧
      Rw (W1.setCells g ((n - 1) * 2) [.string ⟨#[]⟩, .int .i64 0]) 59 2 lc (.slice (some ⟨g, 0, none⟩) (n - 1) cap) (xs.eraseIdx i)) := fun W1 ho => by
    rw [hres, show i + (n - (i + 1)) = n - 1 by omega] at ho
    rcases ho.2 with ⟨h1, _⟩ | ⟨g', cap', cur, e, hb, hh, h1, h2, h3, h4⟩
    · cases h1
    · injection e with e1 e2 e3
      injection e1 with e1
      injection e1 with e1
      subst e1; subst e3
      have hcc : ∀ j, j < 2 → W1.cell? ⟨g, (n - 1) * 2 + j, none⟩ = some (cur[(n - 1) * 2 + j]?.getD undef) := fun j hj => by
        have hlt : (n - 1) * 2 + j < cur.size := by rw [h3]; omega
        rw [cell_of_row _ _ _ _ 59 (0, 0) hh, Array.getElem?_eq_getElem hlt]; rfl
      refine ⟨fun ty c => run_clear1 W1 ty g _ c (fun j hj => by rw [hcc j hj]; rfl) (fun j hj => by simp [World.frozen?, hh]), ?_⟩
      have e1 : W1.setCells g ((n - 1) * 2) [.string ⟨#[]⟩, .int .i64 0] = (W1.setCell ⟨g, (n - 1) * 2, none⟩ (.string ⟨#[]⟩)).setCell ⟨g, (n - 1) * 2 + 1, none⟩ (.int .i64 0) := rfl
      rw [e1]
      have k1 := heap_setCell_same W1 g ((n - 1) * 2) cur 59 (.string ⟨#[]⟩) hh
      have k2 := heap_setCell_same _ g ((n - 1) * 2 + 1) _ 59 (.int .i64 0) k1
      unfold Rw
      rw [hrl]
      refine ⟨ho.1, .inr ⟨g, cap, _, rfl, Nat.zero_le _, k2, by omega, h2, by simpa using h3, ?_⟩⟩
      rw [← h4]
      simp only [Array.toList_setIfInBounds]
      rw [List.take_set_of_le (by omega), List.take_set_of_le (by omega)]
  have H := Lib.hid h
  have HO := Lib.hid hcap2.2
  have HN := Lib.hid hnl
  have H1 := Lib.hid hone
  clear h hcap2 hl hfl hnl hone hres hrl hzz hsz
  by_cases hc : cap = i + 1
  · subst hc
    have hnews : Hid (∀ nq j u, ((xs.flatMap lc).drop ((i + 1) * 2))[j]? = some u → (w.drewN nq).cell? ((⟨g, 0, none⟩ : Addr).add j) = some u) := fun nq => fun j u hj => by
      exfalso
      have := (List.getElem?_eq_some_iff.1 hj).1
      have hh := HN.out
      omega
    rw [show n - (i + 1) = 0 by omega] at HN HCL
    go_enter Tryd.func42, Tryd.ntmps42
    go_upto_region 5 with (fail)
    refine wp_region_quiet_tail 6 (by kernel_rfl) (by kernel_rfl) ?_
    simp only [List.take_succ_cons, List.take_zero, List.drop_succ_cons, List.drop_zero]
    repeat (go_big_quiet_step (fail))
    refine wpQuiet_nil ?_
    intro W8 hw
    obtain ⟨nq, rfl⟩ := hw
    refine wpList_append_own_spare _ rfl _ _ 55 rfl 0 59 i0 2 Tryd.underlying55 hin hz1 g i (i + 1) _ rfl HO.out ⟨g, 0, none⟩ 0 _ _ rfl HN.out (hnews.out nq) H1.out (by omega) ?_
    intro w1 ho hg
    have hcl := HCL.out w1 ho
    have hclr := hcl.1
    have HR := Lib.hid hcl.2
    have HK : Hid (Keep w (w1.setCells g ((n - 1) * 2) [.string ⟨#[]⟩, .int .i64 0]) [g]) := by
      have k0 : Keep w (w.drewN nq) [g] := Keep.of_below (⟨rfl, rfl, rfl, Nat.le_refl _, fun _ _ => rfl⟩ : Below w.heap.size w (w.drewN nq)) _
      have k1 : Keep (w.drewN nq) w1 [g] := Keep.of_gb hg
      exact (k0.trans k1).trans (Keep.setCells _ _ _ _ _ (by simp))
    clear hcl ho hg hnews
    rw [show i + 0 = n - 1 by omega]
    have hn1 : ((n - 1 : Nat) : Int) ≤ (n : Int) := by omega
    have hn2 : n - 1 ≤ n := by omega
    have hn3 : ¬ i + 1 = n - 1 := by omega
    have hn4 : n - (n - 1) = 1 := by omega
    have hn5 : n ≤ i + 1 := hcap
    go_wp2
    go_ret
    exact ⟨rfl, HR.out, HK.out⟩
  · have hnews : Hid (∀ nq j u, ((xs.flatMap lc).drop ((i + 1) * 2))[j]? = some u → (w.drewN nq).cell? ((⟨g, (i + 1) * 2, none⟩ : Addr).add j) = some u) := fun nq => fun j u hj => by
      rw [List.getElem?_drop] at hj
      rw [Addr.add_lit]
      exact H.out.cells _ u hj
    go_enter Tryd.func42, Tryd.ntmps42
    go_upto_region 5 with (fail)
    refine wp_region_quiet_tail 6 (by kernel_rfl) (by kernel_rfl) ?_
    simp only [List.take_succ_cons, List.take_zero, List.drop_succ_cons, List.drop_zero]
    repeat (go_big_quiet_step (fail))
    refine wpQuiet_nil ?_
    intro W8 hw
    obtain ⟨nq, rfl⟩ := hw
    refine wpList_append_own_spare _ rfl _ _ 55 rfl 0 59 i0 2 Tryd.underlying55 hin hz1 g i cap _ rfl HO.out ⟨g, (i + 1) * 2, none⟩ (n - (i + 1)) _ _ rfl HN.out (hnews.out nq) H1.out (by omega) ?_
    intro w1 ho hg
    have hcl := HCL.out w1 ho
    have hclr := hcl.1
    have HR := Lib.hid hcl.2
    have HK : Hid (Keep w (w1.setCells g ((n - 1) * 2) [.string ⟨#[]⟩, .int .i64 0]) [g]) := by
      have k0 : Keep w (w.drewN nq) [g] := Keep.of_below (⟨rfl, rfl, rfl, Nat.le_refl _, fun _ _ => rfl⟩ : Below w.heap.size w (w.drewN nq)) _
      have k1 : Keep (w.drewN nq) w1 [g] := Keep.of_gb hg
      exact (k0.trans k1).trans (Keep.setCells _ _ _ _ _ (by simp))
    clear hcl ho hg hnews
    rw [show i + (n - (i + 1)) = n - 1 by omega]
    have hn1 : ((n - 1 : Nat) : Int) ≤ (n : Int) := by omega
    have hn2 : n - 1 ≤ n := by omega
    have hn3 : ¬ cap = n - 1 := by omega
    have hn4 : n - (n - 1) = 1 := by omega
    have hn5 : n ≤ cap := hcap
    go_wp2
    go_ret
    exact ⟨rfl, HR.out, HK.out⟩
end Go.Proofs.YthoemgiadadfcaaDoor
