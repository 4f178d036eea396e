/- Middles and sides out of left and right ones: the walk of mid.Split. -/
import Derived.Test.YthoemgiadadfcaaWsS9
import Derived.Test.YthoemgiadadfcaaWsMid
import Derived.Test.YthoemgiadadfcaaSt2
set_option linter.unusedVariables false
set_option linter.unusedSimpArgs false
namespace Go.Proofs.Ythoemgiadadfcaa
open Go.RowKit Go.Sort Ws
attribute [local go_sem] Oper.semAt_some
namespace Ws
def mF (xs : List Int) (k : Nat) : Int := xs.getD (2 * k + 1) 0 + (xs.getD (2 * k) 0 - xs.getD (2 * k + 1) 0) / 2
def sF (xs : List Int) (k : Nat) : Int := xs.getD (2 * k) 0 - xs.getD (2 * k + 1) 0
end Ws
set_option maxRecDepth 100000 in
set_option maxHeartbeats 3200000 in
theorem split_is (v : Value) (xs : List Int) (K : Nat) (w : World) (h : Own w 3 .i64 v xs) (hl : xs.length = 2 * K) (hK : K ≤ 500) (bx : ∀ x ∈ xs, -65536 ≤ x ∧ x ≤ 65536) :
    Calls Try.prog 5 #[v] w fun e w' => ∃ vm vs, e = .returned (.tuple #[vm, vs, .int .i64 0]) ∧ Own w' 3 .i64 vm ((List.range K).map (mF xs)) ∧ Own w' 3 .i64 vs ((List.range K).map (sF xs)) ∧ Below w.heap.size w w' := by
  obtain ⟨a, cap, hv⟩ := h.shape
  have hac : 0 < K → ∃ b, a = some ⟨b, 0, none⟩ ∧ 2 * K ≤ cap := fun hk => by
    rcases h.2 with ⟨h1, h2⟩ | ⟨g, cp, cur, h1, _, _, h4, _⟩
    · rw [List.length_eq_zero_iff.1 h2] at hl; simp at hl; omega
    · rw [hv] at h1; injection h1 with e1 e2 e3; subst e1; subst e3; exact ⟨g, rfl, by omega⟩
  obtain ⟨b, hb, hbl⟩ : ∃ b, (0 < K → a = some ⟨b, 0, none⟩ ∧ 2 * K ≤ cap) ∧ b ≤ w.heap.size := by
    by_cases hk : 0 < K
    · obtain ⟨b, hb⟩ := hac hk
      refine ⟨b, fun _ => hb, ?_⟩
      have := h.lt b (by rw [hv, hb.1]; simp [foot, Value.ownBlock])
      omega
    · exact ⟨0, fun h => absurd h hk, by omega⟩
  have hb1 : Below w.heap.size w (w.alloc (.cells #[v] 22)) := (Below.refl _ _).alloc (Nat.le_refl _) _
  have hrow : (w.alloc (.cells #[v] 22)).heap[w.heap.size]? = some (.cells #[v] 22 (0, 0)) := heap_alloc_new w _
  have hgr : Calls Try.prog 10 #[.int .i64 1048576, .slice (some ⟨w.heap.size, 0, none⟩) 1 1] (w.alloc (.cells #[v] 22)) fun e w' => e = .returned (.bool false) ∧ Below (w.alloc (.cells #[v] 22)).heap.size (w.alloc (.cells #[v] 22)) w' := by
    refine mgreat_is 1048576 (by omega) w.heap.size 1 (fun _ => v) (fun i => if i = 0 then xs else []) _ ⟨fun i hi => ?_, fun i hi => ?_, by simp⟩ (by omega) (fun i => by split; omega; simp) (fun x hx => ?_)
    · match i, hi with
      | 0, _ => exact cell_of_row _ _ 0 _ 22 (0, 0) hrow
    · match i, hi with
      | 0, _ => exact h.below hb1
    · have : x ∈ xs := by simpa [flK] using hx
      have := bx x this; omega
  have h1 : Hid (Below w.heap.size w (w.alloc (.cells #[v] 22))) := hb1
  have HO := Lib.hid h
  have HBX := Lib.hid bx
  have HL := Lib.hid hl
  have HB := Lib.hid hb
  have HV := Lib.hid hv
  rw [hl] at hv
  subst hv
  clear h hb1 hrow bx hl hb hac
  have hh1 : (1 : Nat) ≤ 10 := by omega
  refine (callsIn_wide (n := 10)).1 ?_
  refine callsIn_of_wp_marks Try.func5 rfl trivial ?_ rfl
  simp only [Try.ntmps5, List.size_toArray, List.length_cons, List.length_nil, Nat.reduceAdd, Nat.reduceSub, Array.replicate_succ, Array.replicate_zero, List.push_toArray, List.append_toArray, List.nil_append, List.cons_append]
  gi_wp2_with (first | (refine ⟨trivial, ?_⟩; gi_at_call 10; refine (callsIn_wide.2 hgr).mono ?_; rintro e w8 ⟨rfl, hb8⟩; have hB8 := Lib.hid hb8; clear hgr hb8) | (refine ⟨trivial, ?_⟩; gi_at_call 11; refine (callsIn_wide.2 (chunk_is _ _ _ _)).mono ?_; rintro e w9 ⟨rfl, rfl⟩))
  have hsz : w.heap.size + 1 ≤ w8.heap.size := by have := hB8.out.size; simp at this; exact this
  have hW8 : Below w.heap.size w w8 := h1.out.trans (hB8.out.mono (by simp))
  obtain ⟨B, hB8e⟩ : ∃ B, B = w8.heap.size := ⟨_, rfl⟩
  obtain ⟨W0, hW0⟩ : ∃ W0, W0 = (((w8.alloc (Obj.cells #[Value.slice none 0 0] 22)).alloc (Obj.cells #[Value.slice none 0 0] 22)).alloc (Obj.cells #[Value.slice a (2 * K) cap] 22)).alloc (Obj.cells #[Value.int IntKind.i64 2] 3) := ⟨_, rfl⟩
  have hr1 : W0.heap[B]? = some (.cells #[.slice none 0 0] 22 (0, 0)) := by
    rw [hW0, hB8e, Below.heap_alloc _ _ _ (by simp <;> omega), Below.heap_alloc _ _ _ (by simp <;> omega), Below.heap_alloc _ _ _ (by simp <;> omega)]; exact heap_alloc_new w8 _
  have hr2 : W0.heap[B + 1]? = some (.cells #[.slice none 0 0] 22 (0, 0)) := by
    rw [hW0, hB8e, Below.heap_alloc _ _ _ (by simp <;> omega), Below.heap_alloc _ _ _ (by simp <;> omega)]
    have := heap_alloc_new (w8.alloc (Obj.cells #[Value.slice none 0 0] 22)) (.cells #[.slice none 0 0] 22)
    rwa [World.size_alloc] at this
  have hr3 : W0.heap[B + 1 + 1]? = some (.cells #[.slice a (2 * K) cap] 22 (0, 0)) := by
    rw [hW0, hB8e, Below.heap_alloc _ _ _ (by simp)]
    have := heap_alloc_new ((w8.alloc (Obj.cells #[Value.slice none 0 0] 22)).alloc (Obj.cells #[Value.slice none 0 0] 22)) (.cells #[.slice a (2 * K) cap] 22)
    rwa [World.size_alloc, World.size_alloc] at this
  have hr4 : W0.heap[B + 1 + 1 + 1]? = some (.cells #[.int .i64 2] 3 (0, 0)) := by
    rw [hW0, hB8e]
    have := heap_alloc_new (((w8.alloc (Obj.cells #[Value.slice none 0 0] 22)).alloc (Obj.cells #[Value.slice none 0 0] 22)).alloc (.cells #[.slice a (2 * K) cap] 22)) (.cells #[.int .i64 2] 3)
    rwa [World.size_alloc, World.size_alloc, World.size_alloc] at this
  have hW0s : W0.heap.size = B + 4 := by rw [hW0, hB8e]; simp
  have hWb : Below w.heap.size w W0 := by
    rw [hW0]
    exact (((hW8.alloc (by omega) _).alloc (by simp; omega) _).alloc (by simp; omega) _).alloc (by simp; omega) _
  rw [← hW0, ← hB8e]
  clear hW0
  have hS0 : Sv w.heap.size [b, B + 1 + 1, B + 1 + 1 + 1] W0 (.slice none 0 0) (.slice none 0 0) [] [] B (B + 1) (.slice none 0 0) (.slice none 0 0) :=
    ⟨Own.nil _ _ _, Own.nil _ _ _, by simp [foot_nil], hr1, hr2, by omega, by simp [foot_nil], by simp [foot_nil], ⟨by omega, by simp; omega⟩, ⟨by omega, by simp; omega⟩, by simp; omega⟩
  have HC : Hid (∀ W, Lies [b, B + 1 + 1, B + 1 + 1 + 1] W0 W → ∀ k, k < 2 * K → W.cell? ⟨b, k, none⟩ = some (.int .i64 (xs.getD k 0))) := fun W hW k hk => by
    have ho := HO.out
    obtain ⟨ha, hc⟩ := HB.out (by omega)
    rw [ha] at ho
    have h3 : b < w.heap.size := ho.lt b (by simp [foot, Value.ownBlock])
    rw [← HL.out] at ho
    exact (hW.cell (by simp)).trans ((hWb.cell (p := ⟨b, k, none⟩) h3).trans (ho.at_ k (by have := HL.out; omega)))
  have hst := chunk_stops (10 - 1) (by omega) (B + 1 + 1) (B + 1 + 1 + 1) b cap K a (by omega) HB.out W0 (by omega) (by omega) (cell_of_row _ _ 0 _ 22 (0, 0) hr3) (cell_of_row _ _ 0 _ 3 (0, 0) hr4)
  have HWs := Lib.hid hsz
  have HBe := Lib.hid hB8e
  clear hr1 hr2 hr3 hr4 hW8 hsz hB8e
  refine wpIn_rangeFunc_ownF rfl hh1 (gf := 24) (lb := #[.pointer (some ⟨B + 1 + 1, 0, none⟩), .pointer (some ⟨B + 1 + 1 + 1, 0, none⟩)]) rfl trivial (enters_of Try.func24 (by kernel_rfl) rfl)
    hst Lies.trans (fun W l o o' hl ho _ _ j hj => World.putObj_heap_other (by have := hS0.old j hj; omega)) (Below.refl _ _) (fun _ => rfl)
    (fun pre W => ∃ v1 v2, Sv w.heap.size [b, B + 1 + 1, B + 1 + 1 + 1] W v1 v2 (pre.map fun x => mF xs x.val) (pre.map fun x => sF xs x.val) B (B + 1) v1 v2 ∧ Below w.heap.size w W ∧ Lies [b, B + 1 + 1, B + 1 + 1 + 1] W0 W)
    (fun _ _ _ => False) ?hI (fun _ _ _ _ _ hs _ _ => hs) ⟨_, _, hS0, hWb, Lies.refl _ _⟩
    (fun x => ⟨#[.slice a (2 * K) cap, undef, .slice none 0 0, .slice none 0 0, .int .i64 0, .pointer (some ⟨B, 0, none⟩), .pointer (some ⟨B + 1, 0, none⟩), .slice (some ⟨b, 2 * x.val, none⟩) 2 2, undef, undef, .bool false, .slice a (2 * K) cap, .int .i64 (2 * (K : Int)), .int .i64 0, .bool false, .bool false, .slice a (2 * K) cap, .slice (some ⟨w.heap.size, 0, none⟩) 1 1, .bool false, .slice a (2 * K) cap, .func (.func 24) #[] #[.pointer (some ⟨B + 1 + 1, 0, none⟩), .pointer (some ⟨B + 1 + 1 + 1, 0, none⟩)], .slice (some ⟨b, 2 * x.val, none⟩) 2 2, undef, undef, undef, undef, undef, undef, undef, undef, undef, undef, undef, undef, undef, undef, undef, undef, undef, undef, undef, undef], []⟩) ?assign ?body ?done ?stop
  case hI =>
    intro s A C row hs hg hr
    obtain ⟨v1, v2, hS, hbl, hli⟩ := hs
    refine ⟨v1, v2, hS.own hg fun r e => (hr r e).2, hbl.grown hg hbl.size (fun k e => by have := (hr k e).1; have := hWb.size; omega), hli.trans fun j hj => hg.block j (hS.old j hj) fun e => ?_⟩
    have := (hr j e.symm).1
    have := hS0.old j hj
    omega
  case assign =>
    intro l x W Kk hK
    gi_wp2
    exact hK
  case body =>
    rintro l pre x W ⟨v1, v2, hS, hbl, hli⟩ hpl
    obtain ⟨k, hkK⟩ := x
    have c0 := HC.out W hli (2 * k) (by omega)
    have c1 := HC.out W hli (2 * k + 1) (by omega)
    have hbW : b < W.heap.size := hS.old b (by simp)
    have em : mF xs k = xs.getD (2 * k + 1) 0 + (xs.getD (2 * k) 0 - xs.getD (2 * k + 1) 0) / 2 := rfl
    have es : sF xs k = xs.getD (2 * k) 0 - xs.getD (2 * k + 1) 0 := rfl
    have bL : -65536 ≤ xs.getD (2 * k) 0 ∧ xs.getD (2 * k) 0 ≤ 65536 := HBX.out _ (by rw [List.getD_eq_getElem?_getD, List.getElem?_eq_getElem (by have := HL.out; omega)]; exact List.getElem_mem _)
    have bR : -65536 ≤ xs.getD (2 * k + 1) 0 ∧ xs.getD (2 * k + 1) 0 ≤ 65536 := HBX.out _ (by rw [List.getD_eq_getElem?_getD, List.getElem?_eq_getElem (by have := HL.out; omega)]; exact List.getElem_mem _)
    generalize xs.getD (2 * k) 0 = L at *
    generalize xs.getD (2 * k + 1) 0 = R at *
    have HQ : Hid (∀ w, Calls Try.prog 12 #[.int .i64 L, .int .i64 R] w fun e w' => e = .returned (.tuple #[.int .i64 (R + (L - R) / 2), .int .i64 (L - R)]) ∧ Below w.heap.size w w') := fun w => (of_is L R (by omega) (by omega) w).mono fun e w' h => ⟨h.1, by rw [h.2]; exact Below.refl _ _⟩
    rw [← em, ← es] at HQ
    have hl1 : (pre.map fun x => mF xs x.val) ++ [mF xs k] = (pre ++ [(⟨k, hkK⟩ : Fin K)]).map fun x => mF xs x.val := by simp
    have hl2 : (pre.map fun x => sF xs x.val) ++ [sF xs k] = (pre ++ [(⟨k, hkK⟩ : Fin K)]).map fun x => sF xs x.val := by simp
    have hln : Hid ((pre.map fun x => mF xs x.val).length ≤ 1000000 ∧ (pre.map fun x => sF xs x.val).length ≤ 1000000) := by show _ ∧ _; simp; omega
    have hfin0 : ∀ w' v1' v2', Sv w.heap.size [b, B + 1 + 1, B + 1 + 1 + 1] w' v1' v2' ((pre.map fun x => mF xs x.val) ++ [mF xs k]) ((pre.map fun x => sF xs x.val) ++ [sF xs k]) B (B + 1) v1' v2' → Kx w.heap.size [b, B + 1 + 1, B + 1 + 1 + 1] W w' →
        KeepsOthers W w' ∧ Lies [b, B + 1 + 1, B + 1 + 1 + 1] W w' ∧ ∃ v1 v2, Sv w.heap.size [b, B + 1 + 1, B + 1 + 1 + 1] w' v1 v2 ((pre ++ [(⟨k, hkK⟩ : Fin K)]).map fun x => mF xs x.val) ((pre ++ [(⟨k, hkK⟩ : Fin K)]).map fun x => sF xs x.val) B (B + 1) v1 v2 ∧ Below w.heap.size w w' ∧ Lies [b, B + 1 + 1, B + 1 + 1 + 1] W0 w' := fun w' v1' v2' h1 h2 =>
      ⟨h2.ko, h2.lies, v1', v2', by rw [← hl1, ← hl2]; exact h1, hbl.trans h2.below, hli.trans h2.lies⟩
    have hnW : w.heap.size ≤ W.heap.size := hbl.size
    generalize (pre.map fun x => mF xs x.val) = l1 at *
    generalize (pre.map fun x => sF xs x.val) = l2 at *
    generalize mF xs k = M at *
    generalize sF xs k = S at *
    have hS1 := Lib.hid hS
    have hfin1 := Lib.hid hfin0
    clear hl1 hl2 em es bL bR hst hfin0 hS
    gi_wp2
    obtain ⟨I, hI⟩ : ∃ I : (Nat → Bool) → Act → World → Prop, ∀ dn ac wc, I dn ac wc ↔ ∃ s8 s9 s22 s23 s24 s25 s26 s27 s28 s29 s30 s31, ac = ⟨#[.slice a (2 * K) cap, undef, .slice none 0 0, .slice none 0 0, .int .i64 0, .pointer (some ⟨B, 0, none⟩), .pointer (some ⟨B + 1, 0, none⟩), .slice (some ⟨b, 2 * k, none⟩) 2 2, s8, s9, .bool false, .slice a (2 * K) cap, .int .i64 (2 * (K : Int)), .int .i64 0, .bool false, .bool false, .slice a (2 * K) cap, .slice (some ⟨w.heap.size, 0, none⟩) 1 1, .bool false, .slice a (2 * K) cap, .func (.func 24) #[] #[.pointer (some ⟨B + 1 + 1, 0, none⟩), .pointer (some ⟨B + 1 + 1 + 1, 0, none⟩)], .slice (some ⟨b, 2 * k, none⟩) 2 2, s22, s23, s24, s25, s26, s27, s28, s29, s30, s31, undef, undef, undef, undef, undef, undef, undef, undef, undef, undef], []⟩ ∧
      St2 wc dn [(0, .slice (some ⟨b, 2 * k, none⟩) 2 2, s23), (1, .pointer (some ⟨b, 2 * k, none⟩), s24), (2, .int .i64 L, s25), (3, .slice (some ⟨b, 2 * k, none⟩) 2 2, s26), (4, .pointer (some ⟨b, 2 * k + 1, none⟩), s27), (5, .int .i64 R, s28), (6, .tuple #[.int .i64 M, .int .i64 S], s29), (7, .tuple #[.int .i64 M, .int .i64 S], s22), (8, .int .i64 M, s30), (9, .int .i64 S, s31), (10, .int .i64 M, s8), (11, .int .i64 S, s9)] (fun w' => Below W.heap.size W w') (fun w' => Below W.heap.size W w') (fun w' => Below W.heap.size W w') 100 101 [] := ⟨_, fun _ _ _ => Iff.rfl⟩
    have HI := Lib.hid hI
    clear hI
    refine wpIn_region_inv (by kernel_rfl) (by kernel_rfl) (by simp) (by rintro ⟨_, _, h⟩; exact h) I ?_ ?_ ?_
    · exact (HI.out _ _ _).2 ⟨_, _, _, _, _, _, _, _, _, _, _, _, rfl, St2.start _ _ _ _ _ _ _ _ (Below.refl _ _) (fun _ _ h hb => h.trans (hb.mono h.size))⟩
    · intro i o dn ac wc ho hd hdep hIn
      obtain ⟨s8, s9, s22, s23, s24, s25, s26, s27, s28, s29, s30, s31, rfl, hT⟩ := (HI.out _ _ _).1 hIn
      clear hIn
      rcases i with _ | _ | _ | _ | _ | _ | _ | _ | _ | _ | _ | _ | i
      · obtain rfl := Option.some.inj ho
        have HT := Lib.hid hT
        clear hT hdep
        refine .inl ?_
        unfold Oper.wp
        go_simp
        exact (HI.out _ _ _).2 ⟨_, _, _, _, _, _, _, _, _, _, _, _, rfl, (HT.out).put 0 0 (.slice (some ⟨b, 2 * k, none⟩) 2 2) (by decide) rfl⟩
      · obtain rfl := Option.some.inj ho
        have e0 := hT.vals _ (List.Mem.head _) (hdep ⟨0, .data⟩ (by simp) rfl)
        dsimp only at e0
        subst e0
        have HT := Lib.hid hT
        clear hT hdep
        refine .inl ?_
        unfold Oper.wp
        go_simp
        exact (HI.out _ _ _).2 ⟨_, _, _, _, _, _, _, _, _, _, _, _, rfl, (HT.out).put 1 1 (.pointer (some ⟨b, 2 * k, none⟩)) (by decide) rfl⟩
      · obtain rfl := Option.some.inj ho
        have e1 := hT.vals _ (List.Mem.tail _ (List.Mem.head _)) (hdep ⟨1, .data⟩ (by simp) rfl)
        dsimp only at e1
        subst e1
        have hS := hT.any (fun w' => Below W.heap.size W w') (fun _ h => h) (fun _ h => h) (fun _ h => h)
        have l0 := (hS.cell (p := ⟨b, 2 * k, none⟩) hbW).trans c0
        have HT := Lib.hid hT
        clear hT hdep
        clear hS
        refine .inl ?_
        unfold Oper.wp
        go_simp
        exact (HI.out _ _ _).2 ⟨_, _, _, _, _, _, _, _, _, _, _, _, rfl, (HT.out).put 2 2 (.int .i64 L) (by decide) rfl⟩
      · obtain rfl := Option.some.inj ho
        have HT := Lib.hid hT
        clear hT hdep
        refine .inl ?_
        unfold Oper.wp
        go_simp
        exact (HI.out _ _ _).2 ⟨_, _, _, _, _, _, _, _, _, _, _, _, rfl, (HT.out).put 3 3 (.slice (some ⟨b, 2 * k, none⟩) 2 2) (by decide) rfl⟩
      · obtain rfl := Option.some.inj ho
        have e3 := hT.vals _ (List.Mem.tail _ (List.Mem.tail _ (List.Mem.tail _ (List.Mem.head _)))) (hdep ⟨3, .data⟩ (by simp) rfl)
        dsimp only at e3
        subst e3
        have HT := Lib.hid hT
        clear hT hdep
        refine .inl ?_
        unfold Oper.wp
        go_simp
        exact (HI.out _ _ _).2 ⟨_, _, _, _, _, _, _, _, _, _, _, _, rfl, (HT.out).put 4 4 (.pointer (some ⟨b, 2 * k + 1, none⟩)) (by decide) rfl⟩
      · obtain rfl := Option.some.inj ho
        have e4 := hT.vals _ (List.Mem.tail _ (List.Mem.tail _ (List.Mem.tail _ (List.Mem.tail _ (List.Mem.head _))))) (hdep ⟨4, .data⟩ (by simp) rfl)
        dsimp only at e4
        subst e4
        have hS := hT.any (fun w' => Below W.heap.size W w') (fun _ h => h) (fun _ h => h) (fun _ h => h)
        have l0 := (hS.cell (p := ⟨b, 2 * k + 1, none⟩) hbW).trans c1
        have HT := Lib.hid hT
        clear hT hdep
        clear hS
        refine .inl ?_
        unfold Oper.wp
        go_simp
        exact (HI.out _ _ _).2 ⟨_, _, _, _, _, _, _, _, _, _, _, _, rfl, (HT.out).put 5 5 (.int .i64 R) (by decide) rfl⟩
      · obtain rfl := Option.some.inj ho
        have e2 := hT.vals _ (List.Mem.tail _ (List.Mem.tail _ (List.Mem.head _))) (hdep ⟨2, .data⟩ (by simp) rfl)
        dsimp only at e2
        subst e2
        have e5 := hT.vals _ (List.Mem.tail _ (List.Mem.tail _ (List.Mem.tail _ (List.Mem.tail _ (List.Mem.tail _ (List.Mem.head _)))))) (hdep ⟨5, .data⟩ (by simp) rfl)
        dsimp only at e5
        subst e5
        have HT := Lib.hid hT
        clear hT hdep
        refine .inl ?_
        unfold Oper.wp
        go_simp
        (with_reducible refine (HQ.out wc).mono ?_); rintro e w1 ⟨rfl, hb1⟩
        exact (HI.out _ _ _).2 ⟨_, _, _, _, _, _, _, _, _, _, _, _, rfl, (HT.out.later (fun _ _ h hb => h.trans (hb.mono h.size)) (fun _ _ h hb => h.trans (hb.mono h.size)) (fun _ _ h hb => h.trans (hb.mono h.size)) hb1).put 6 6 (.tuple #[.int .i64 M, .int .i64 S]) (by decide) rfl⟩
      · obtain rfl := Option.some.inj ho
        have e6 := hT.vals _ (List.Mem.tail _ (List.Mem.tail _ (List.Mem.tail _ (List.Mem.tail _ (List.Mem.tail _ (List.Mem.tail _ (List.Mem.head _))))))) (hdep ⟨6, .data⟩ (by simp) rfl)
        dsimp only at e6
        subst e6
        have HT := Lib.hid hT
        clear hT hdep
        refine .inl ?_
        unfold Oper.wp
        go_simp
        exact (HI.out _ _ _).2 ⟨_, _, _, _, _, _, _, _, _, _, _, _, rfl, (HT.out).put 7 7 (.tuple #[.int .i64 M, .int .i64 S]) (by decide) rfl⟩
      · obtain rfl := Option.some.inj ho
        have e7 := hT.vals _ (List.Mem.tail _ (List.Mem.tail _ (List.Mem.tail _ (List.Mem.tail _ (List.Mem.tail _ (List.Mem.tail _ (List.Mem.tail _ (List.Mem.head _)))))))) (hdep ⟨7, .data⟩ (by simp) rfl)
        dsimp only at e7
        subst e7
        have HT := Lib.hid hT
        clear hT hdep
        refine .inl ?_
        unfold Oper.wp
        go_simp
        exact (HI.out _ _ _).2 ⟨_, _, _, _, _, _, _, _, _, _, _, _, rfl, (HT.out).put 8 8 (.int .i64 M) (by decide) rfl⟩
      · obtain rfl := Option.some.inj ho
        have e7 := hT.vals _ (List.Mem.tail _ (List.Mem.tail _ (List.Mem.tail _ (List.Mem.tail _ (List.Mem.tail _ (List.Mem.tail _ (List.Mem.tail _ (List.Mem.head _)))))))) (hdep ⟨7, .data⟩ (by simp) rfl)
        dsimp only at e7
        subst e7
        have HT := Lib.hid hT
        clear hT hdep
        refine .inl ?_
        unfold Oper.wp
        go_simp
        exact (HI.out _ _ _).2 ⟨_, _, _, _, _, _, _, _, _, _, _, _, rfl, (HT.out).put 9 9 (.int .i64 S) (by decide) rfl⟩
      · obtain rfl := Option.some.inj ho
        have e8 := hT.vals _ (List.Mem.tail _ (List.Mem.tail _ (List.Mem.tail _ (List.Mem.tail _ (List.Mem.tail _ (List.Mem.tail _ (List.Mem.tail _ (List.Mem.tail _ (List.Mem.head _))))))))) (hdep ⟨8, .data⟩ (by simp) rfl)
        dsimp only at e8
        subst e8
        have HT := Lib.hid hT
        clear hT hdep
        refine .inl ?_
        unfold Oper.wp
        go_simp
        exact (HI.out _ _ _).2 ⟨_, _, _, _, _, _, _, _, _, _, _, _, rfl, (HT.out).put 10 10 (.int .i64 M) (by decide) rfl⟩
      · obtain rfl := Option.some.inj ho
        have e9 := hT.vals _ (List.Mem.tail _ (List.Mem.tail _ (List.Mem.tail _ (List.Mem.tail _ (List.Mem.tail _ (List.Mem.tail _ (List.Mem.tail _ (List.Mem.tail _ (List.Mem.tail _ (List.Mem.head _)))))))))) (hdep ⟨9, .data⟩ (by simp) rfl)
        dsimp only at e9
        subst e9
        have HT := Lib.hid hT
        clear hT hdep
        refine .inl ?_
        unfold Oper.wp
        go_simp
        exact (HI.out _ _ _).2 ⟨_, _, _, _, _, _, _, _, _, _, _, _, rfl, (HT.out).put 11 11 (.int .i64 S) (by decide) rfl⟩
      · cases ho
    · intro dn ac wc hd hIn
      obtain ⟨s8, s9, s22, s23, s24, s25, s26, s27, s28, s29, s30, s31, rfl, hT⟩ := (HI.out _ _ _).1 hIn
      have hF := Lib.hid (hT.any (fun w' => Below W.heap.size W w') (fun _ h => h) (fun _ h => h) (fun _ h => h))
      have e8 := hT.vals (10, .int .i64 M, s8) (by simp) (hd 10 (by decide))
      dsimp only at e8
      subst e8
      have e9 := hT.vals (11, .int .i64 S, s9) (by simp) (hd 11 (by decide))
      dsimp only at e9
      subst e9
      have e22 := hT.vals (7, .tuple #[.int .i64 M, .int .i64 S], s22) (by simp) (hd 7 (by decide))
      dsimp only at e22
      subst e22
      have e23 := hT.vals (0, .slice (some ⟨b, 2 * k, none⟩) 2 2, s23) (by simp) (hd 0 (by decide))
      dsimp only at e23
      subst e23
      have e24 := hT.vals (1, .pointer (some ⟨b, 2 * k, none⟩), s24) (by simp) (hd 1 (by decide))
      dsimp only at e24
      subst e24
      have e25 := hT.vals (2, .int .i64 L, s25) (by simp) (hd 2 (by decide))
      dsimp only at e25
      subst e25
      have e26 := hT.vals (3, .slice (some ⟨b, 2 * k, none⟩) 2 2, s26) (by simp) (hd 3 (by decide))
      dsimp only at e26
      subst e26
      have e27 := hT.vals (4, .pointer (some ⟨b, 2 * k + 1, none⟩), s27) (by simp) (hd 4 (by decide))
      dsimp only at e27
      subst e27
      have e28 := hT.vals (5, .int .i64 R, s28) (by simp) (hd 5 (by decide))
      dsimp only at e28
      subst e28
      have e29 := hT.vals (6, .tuple #[.int .i64 M, .int .i64 S], s29) (by simp) (hd 6 (by decide))
      dsimp only at e29
      subst e29
      have e30 := hT.vals (8, .int .i64 M, s30) (by simp) (hd 8 (by decide))
      dsimp only at e30
      subst e30
      have e31 := hT.vals (9, .int .i64 S, s31) (by simp) (hd 9 (by decide))
      dsimp only at e31
      subst e31
      clear HI hIn hT hd
      have hS2 : Hid (Sv w.heap.size [b, B + 1 + 1, B + 1 + 1 + 1] wc v1 v2 l1 l2 B (B + 1) v1 v2) := hS1.out.later hF.out
      have hn2 : Hid (w.heap.size ≤ wc.heap.size) := Nat.le_trans hnW hF.out.size
      have hfin : Hid (∀ w' v1' v2', Sv w.heap.size [b, B + 1 + 1, B + 1 + 1 + 1] w' v1' v2' (l1 ++ [M]) (l2 ++ [S]) B (B + 1) v1' v2' → Kx w.heap.size [b, B + 1 + 1, B + 1 + 1 + 1] wc w' → _) := fun w' v1' v2' h1 h2 => hfin1.out w' v1' v2' h1 ((hS1.out.kxN hnW hF.out).trans h2)
      clear hS1 hF hfin1 c0 c1 HQ
      obtain ⟨W2, rfl⟩ : ∃ W2 : World, W2 = wc := ⟨_, rfl⟩
      gi_wp2
      obtain ⟨I, hI⟩ : ∃ I : (Nat → Bool) → Act → World → Prop, ∀ dn ac wc, I dn ac wc ↔ ∃ s32 s33 s34 s35 s36 s37 s38 s39, ac = ⟨#[.slice a (2 * K) cap, undef, .slice none 0 0, .slice none 0 0, .int .i64 0, .pointer (some ⟨B, 0, none⟩), .pointer (some ⟨B + 1, 0, none⟩), .slice (some ⟨b, 2 * k, none⟩) 2 2, .int .i64 M, .int .i64 S, .bool false, .slice a (2 * K) cap, .int .i64 (2 * (K : Int)), .int .i64 0, .bool false, .bool false, .slice a (2 * K) cap, .slice (some ⟨w.heap.size, 0, none⟩) 1 1, .bool false, .slice a (2 * K) cap, .func (.func 24) #[] #[.pointer (some ⟨B + 1 + 1, 0, none⟩), .pointer (some ⟨B + 1 + 1 + 1, 0, none⟩)], .slice (some ⟨b, 2 * k, none⟩) 2 2, .tuple #[.int .i64 M, .int .i64 S], .slice (some ⟨b, 2 * k, none⟩) 2 2, .pointer (some ⟨b, 2 * k, none⟩), .int .i64 L, .slice (some ⟨b, 2 * k, none⟩) 2 2, .pointer (some ⟨b, 2 * k + 1, none⟩), .int .i64 R, .tuple #[.int .i64 M, .int .i64 S], .int .i64 M, .int .i64 S, s32, s33, s34, s35, s36, s37, s38, s39, undef, undef], []⟩ ∧
        S9 w.heap.size [b, B + 1 + 1, B + 1 + 1 + 1] W2 wc dn v1 v2 l1 l2 M S B (B + 1) s32 s33 s34 s35 s36 s37 s38 s39 := ⟨_, fun _ _ _ => Iff.rfl⟩
      have HI := Lib.hid hI
      clear hI
      refine wpIn_region_inv (by kernel_rfl) (by kernel_rfl) (by simp) (by rintro ⟨_, _, h⟩; exact h) I ?_ ?_ ?_
      · exact (HI.out _ _ _).2 ⟨_, _, _, _, _, _, _, _, rfl, S9.start hS2.out hn2.out _ _ _ _ _ _ _ _⟩
      · intro i o dn ac wc ho hd hdep hIn
        obtain ⟨s32, s33, s34, s35, s36, s37, s38, s39, rfl, hT⟩ := (HI.out _ _ _).1 hIn
        clear hIn
        rcases i with _ | _ | _ | _ | _ | _ | _ | _ | _ | _ | i
        · obtain rfl := Option.some.inj ho
          have l0 : wc.cell? ⟨B, 0, none⟩ = some v1 := cell_of_row _ _ 0 _ 22 (0, 0) (hT.box1 hd)
          have HT := Lib.hid hT
          clear hT hdep
          refine .inl ?_
          unfold Oper.wp
          go_simp
          exact (HI.out _ _ _).2 ⟨_, _, _, _, _, _, _, _, rfl, HT.out.set0⟩
        · obtain rfl := Option.some.inj ho
          have HT := Lib.hid hT
          clear hT hdep
          refine .inl ?_
          unfold Oper.wp
          go_simp
          exact (HI.out _ _ _).2 ⟨_, _, _, _, _, _, _, _, rfl, HT.out.set1⟩
        · obtain rfl := Option.some.inj ho
          obtain rfl := hT.e1 (hdep ⟨1, .data⟩ (by simp) rfl)
          have HT := Lib.hid hT
          clear hT hdep
          refine .inl ?_
          unfold Oper.wp
          go_simp
          exact (HI.out _ _ _).2 ⟨_, _, _, _, _, _, _, _, rfl, HT.out.make1 hn2.out⟩
        · obtain rfl := Option.some.inj ho
          have d0 := hdep ⟨0, .data⟩ (by simp) rfl
          have d2 := hdep ⟨2, .data⟩ (by simp) rfl
          obtain rfl := hT.e0 d0
          obtain ⟨p, rfl, hp⟩ := hT.e2 d2
          refine .inl (wp_append_blk _ _ 22 rfl Try.underlying22 s32 l1 p M rfl rfl (hT.pre1 hd) (hp hd) hln.out.1 fun g cap w1 ho hk hf => ?_)
          exact (HI.out _ _ _).2 ⟨_, _, _, _, _, _, _, _, rfl, hT.app1 hn2.out hd ⟨d0, d2⟩ ho hk hf⟩
        · obtain rfl := Option.some.inj ho
          have l0 : wc.cell? ⟨B + 1, 0, none⟩ = some v2 := cell_of_row _ _ 0 _ 22 (0, 0) (hT.box2 hd)
          have HT := Lib.hid hT
          clear hT hdep
          refine .inl ?_
          unfold Oper.wp
          go_simp
          exact (HI.out _ _ _).2 ⟨_, _, _, _, _, _, _, _, rfl, HT.out.set4⟩
        · obtain rfl := Option.some.inj ho
          have HT := Lib.hid hT
          clear hT hdep
          refine .inl ?_
          unfold Oper.wp
          go_simp
          exact (HI.out _ _ _).2 ⟨_, _, _, _, _, _, _, _, rfl, HT.out.set5⟩
        · obtain rfl := Option.some.inj ho
          obtain rfl := hT.e5 (hdep ⟨5, .data⟩ (by simp) rfl)
          have HT := Lib.hid hT
          clear hT hdep
          refine .inl ?_
          unfold Oper.wp
          go_simp
          exact (HI.out _ _ _).2 ⟨_, _, _, _, _, _, _, _, rfl, HT.out.make2 hn2.out⟩
        · obtain rfl := Option.some.inj ho
          have d4 := hdep ⟨4, .data⟩ (by simp) rfl
          have d6 := hdep ⟨6, .data⟩ (by simp) rfl
          have d3 := hdep ⟨3, .chain⟩ (by simp) rfl
          obtain rfl := hT.e4 d4
          obtain ⟨p, rfl, hp⟩ := hT.e6 d6
          refine .inl (wp_append_blk _ _ 22 rfl Try.underlying22 s36 l2 p S rfl rfl (hT.pre2 hd) (hp hd).1 hln.out.2 fun g cap w1 ho hk hf => ?_)
          exact (HI.out _ _ _).2 ⟨_, _, _, _, _, _, _, _, rfl, hT.app2 hn2.out hd d3 d4 ho hk hf⟩
        · obtain rfl := Option.some.inj ho
          have d3 := hdep ⟨3, .data⟩ (by simp) rfl
          have d7 := hdep ⟨7, .chain⟩ (by simp) rfl
          obtain ⟨g3, n3, c3, rfl⟩ := hT.form1 d3
          have hrow := hT.sv.b1
          have l0 := cell_of_row _ _ 0 _ 22 (0, 0) hrow
          have f0 : wc.frozen? ⟨B, 0, none⟩ = false := by simp [World.frozen?, hrow]
          have hnew := Lib.hid (hT.put1 hn2.out hd d3 d7)
          clear hT hdep hrow
          refine .inl ?_
          unfold Oper.wp
          go_simp
          exact (HI.out _ _ _).2 ⟨_, _, _, _, _, _, _, _, rfl, hnew.out⟩
        · obtain rfl := Option.some.inj ho
          have d7 := hdep ⟨7, .data⟩ (by simp) rfl
          have d8 := hdep ⟨8, .chain⟩ (by simp) rfl
          obtain ⟨g3, n3, c3, rfl⟩ := hT.form2 d7
          have hrow := hT.sv.b2
          have l0 := cell_of_row _ _ 0 _ 22 (0, 0) hrow
          have f0 : wc.frozen? ⟨B + 1, 0, none⟩ = false := by simp [World.frozen?, hrow]
          have hnew := Lib.hid (hT.put2 hn2.out hd d7 d8)
          clear hT hdep hrow
          refine .inl ?_
          unfold Oper.wp
          go_simp
          exact (HI.out _ _ _).2 ⟨_, _, _, _, _, _, _, _, rfl, hnew.out⟩
        · cases ho
      · intro dn ac wc hd hIn
        obtain ⟨s32, s33, s34, s35, s36, s37, s38, s39, rfl, hT⟩ := (HI.out _ _ _).1 hIn
        obtain ⟨hS9, hK9⟩ := hT.done (hd 9 (by decide))
        have hN := Lib.hid (hfin.out _ _ _ hS9 hK9)
        clear HI hIn hT hd hS9 hK9
        exact hN.out
  case done =>
    rintro D ys W hD hys ⟨v1, v2, hS, hbl, hli⟩ hK
    have l0 : W.cell? ⟨B, 0, none⟩ = some v1 := cell_of_row _ _ 0 _ 22 (0, 0) hS.b1
    have l1 : W.cell? ⟨B + 1, 0, none⟩ = some v2 := cell_of_row _ _ 0 _ 22 (0, 0) hS.b2
    have hm : ∀ g : Nat → Int, (ys.map fun x => g x.val) = (List.range K).map g := fun g => by rw [← hys, List.map_map]; rfl
    have hm2 := Lib.hid hm
    have HS := Lib.hid hS
    clear hm hS hst hys
    gi_wp2
    refine wpIn_wide.2 ?_
    go_quiet (fail)
    have hKd : (W.drewN nq).heap[D]? = some (.deferred (some [])) := hK
    gi_wp2
    refine ⟨by simp, .inl ⟨_, _, rfl, run_takeDeferred hKd, ?_⟩⟩
    have hB0 : Below W.heap.size W (W.drewN nq) := ⟨rfl, rfl, rfl, Nat.le_refl _, fun _ _ => rfl⟩
    have hSf := (HS.out.later hB0).own (grownBy_putObj' _ D (.deferred none)) (fun r e => by cases e; exact ⟨_, hKd, rfl⟩)
    refine ⟨.tuple #[v1, v2, .int .i64 0], by simp [results, Try.f5, go_sem], v1, v2, rfl, ?_, ?_, ?_⟩
    · have := hSf.o1; rw [hm2.out] at this; exact this
    · have := hSf.o2; rw [hm2.out] at this; exact this
    · exact (hbl.trans (hB0.mono hbl.size)).trans (belowK_b (w := w) (Nat.le_refl _) (W.drewN nq) D _ _ (by have := hWb.size; omega) hKd rfl rfl)
  case stop =>
    rintro D c pre W _ _ h _
    exact h.elim
end Go.Proofs.Ythoemgiadadfcaa
