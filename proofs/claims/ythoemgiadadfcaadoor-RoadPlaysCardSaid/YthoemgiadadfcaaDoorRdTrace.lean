/- Where packets came from: the walk of Trace. -/
import Derived.Test.YthoemgiadadfcaaDoorRdCounts
set_option linter.unusedVariables false
set_option linter.unusedSimpArgs false
namespace Go.Proofs.YthoemgiadadfcaaDoor
open Go.RowKit Go.Sort Rd
attribute [local go_sem] Oper.semAt_some
namespace Rd
/-- Where a packet came from lies in the list. -/
def Gd (n : Nat) (xs : List It) : Prop := ∀ it ∈ xs, 0 ≤ it.2 ∧ it.2 < n
theorem Gd.upd {B : Nat} {i : Int} {f : It → It} {xs : List It} (h : Gd B xs) (hf : ∀ it : It, (f it).2 = it.2) : Gd B (updL i f xs) := by
  unfold updL; split
  · intro it hit
    rcases mem_modify xs _ hit with hm | ⟨x, hx, rfl⟩
    · exact h it hm
    · rw [hf]; exact h x hx
  · exact h
theorem deedL_gd (B : Nat) (x : Ac) (xs : List It) (h : Gd B xs) : Gd B (deedL x xs) := by
  unfold deedL
  generalize kd x.w = k
  unfold deedK
  have hg : ∀ i : Nat, i < xs.length → 0 ≤ (xs.getD i (ByteArray.empty, 0)).2 ∧ (xs.getD i (ByteArray.empty, 0)).2 < B := fun i hi => by
    rw [List.getD_eq_getElem?_getD, List.getElem?_eq_getElem hi]
    exact h _ (List.getElem_mem hi)
  split
  · unfold dropL; split
    · exact fun it hit => h it (List.mem_of_mem_eraseIdx hit)
    · exact h
  · unfold twiceL; split
    · rename_i hi
      intro it hit
      unfold insL at hit
      rcases List.mem_append.1 hit with hm | hm
      · exact h it (List.mem_of_mem_take hm)
      · rcases List.mem_cons.1 hm with rfl | hm
        · exact hg _ (by unfold inn at hi; omega)
        · exact h it (List.mem_of_mem_drop hm)
    · exact h
  · unfold swapL; split
    · rename_i hi
      intro it hit
      rcases List.mem_or_eq_of_mem_set hit with hm | rfl
      · rcases List.mem_or_eq_of_mem_set hm with hm | rfl
        · exact h it hm
        · exact hg _ (by unfold inn at hi; omega)
      · exact hg _ (by unfold inn at hi; omega)
    · exact h
  · refine h.upd fun it => ?_
    unfold spoilF; split <;> rfl
  · refine h.upd fun it => ?_
    unfold trimF; split <;> rfl
  · exact h
theorem initL_gd (l : List ByteArray) : Gd l.length (initL l) := by
  intro it hit
  unfold initL at hit
  obtain ⟨p, hp, rfl⟩ := List.mem_map.1 hit
  have h1 := List.snd_lt_of_mem_zipIdx hp
  simp at h1
  exact ⟨by simp, by simpa using h1⟩
theorem fold_gd (B : Nat) : ∀ (acts : List Ac) (xs : List It), Gd B xs → Gd B (acts.foldl (fun xs x => deedL x xs) xs)
  | [], xs, h => h
  | x :: acts, xs, h => fold_gd B acts _ (deedL_gd B x xs h)
theorem runL_gd (l : List ByteArray) (acts : List Ac) : Gd l.length (runL l acts) := fold_gd _ _ _ (initL_gd l)
abbrev Fm := Int × Bool
def fm (x : Fm) : List Value := [.int .i64 x.1, .bool x.2]
theorem fm_length (x : Fm) : (fm x).length = 2 := rfl
theorem fm_one (x : Fm) : ∀ u ∈ fm x, u.oneCell' = true := fun u hu => by
  simp [fm] at hu
  rcases hu with rfl | rfl <;> rfl
def trI (l : List ByteArray) (it : It) : Fm := (it.2, it.1.toList == (l.getD it.2.toNat ByteArray.empty).toList)
def trL (l : List ByteArray) (xs : List It) : List Fm := xs.map (trI l)
theorem eq_toList (a b : ByteArray) : (a.toList == b.toList) = decide (a = b) := by
  by_cases h : a = b
  · subst h; simp
  · rw [decide_eq_false h]
    refine beq_eq_false_iff_ne.2 fun e => h ?_
    rw [ByteArray.toList_eq, ByteArray.toList_eq] at e
    exact ByteArray.ext (Array.toList_inj.1 e)
end Rd
open Rd
theorem info44 : (Tryd.prog.info? 44).map (fun i => (i.zero, i.size, i.bytes)) = some (some (.agg #[.int .i64 0, .bool false]), 2, 16) := by kernel_rfl
set_option maxRecDepth 100000 in
set_option maxHeartbeats 1600000 in
theorem trace_bad (v u : Value) (l : List ByteArray) (acts : List Ac) (w : World) (h' : Rr w 4 ac u acts) (hn' : acts.length ≤ 1000) (hw : wrs acts ≠ 0) :
    Calls Tryd.prog 13 #[v, u] w fun e w' => e = .returned (.tuple #[.slice none 0 0, .int .i64 (wrs acts)]) ∧ Below w.heap.size w w' := by
  have hq := done_bad v u [] acts w h' hn' hw
  clear hw
  go_enter Tryd.func13, Tryd.ntmps13
  go_wp2_with (go_at_call 19; (with_reducible refine hq.mono ?_); rintro e w1 ⟨rfl, hb1⟩; clear hq)
  go_loopw [8, 19] (fun v i wr => v = .slice none 0 0 ∧ i = .int .i64 0 ∧ Below w.heap.size w wr) (fun _ _ _ => 0)
  case atStart => exact ⟨rfl, rfl, hb1⟩
  case round =>
    obtain ⟨rfl, rfl, hb⟩ := hrel
    go_wp2_with fail
    go_ret2
    exact ⟨rfl, hb⟩
/-- What Trace leaves. -/
def Tx (w : World) (l : List ByteArray) (acts : List Ac) (e : Ending) (w' : World) : Prop := ∃ r, e = .returned (.tuple #[r, .int .i64 0]) ∧ Rw w' 44 2 fm r (trL l (runL l acts)) ∧ Below w.heap.size w w'
set_option maxRecDepth 100000 in
set_option maxHeartbeats 1600000 in
theorem trace_ok (v u : Value) (l : List ByteArray) (acts : List Ac) (w : World) (h : Rr w 1 st v l) (h' : Rr w 4 ac u acts) (hn : l.length ≤ 1000) (hn' : acts.length ≤ 1000) (hs : ∀ s ∈ l, s.size ≤ 140737488355328) (hw : wrs acts = 0) :
    Calls Tryd.prog 13 #[v, u] w (Tx w l acts) := by
  have hq := done_ok v u l acts w h h' hn hn' hs hw
  have hlen : (runL l acts).length ≤ 2000 := by
    have := fold_le acts (initL l)
    rw [initL_length] at this
    unfold runL
    omega
  have HX : Hid (∀ r w', Rw w' 59 2 lc r (runL l acts) → ∃ a cap, r = .slice a (runL l acts).length cap) := fun r w' h => h.shape
  obtain ⟨av, cv, rfl, hav⟩ := h
  have HL := Lib.hid (show Rr w 1 st (.slice av l.length cv) l from ⟨av, cv, rfl, hav⟩)
  have HG := Lib.hid (runL_gd l acts)
  clear hav h' hw hs
  go_enter Tryd.func13, Tryd.ntmps13
  obtain ⟨xs, hxs⟩ : ∃ xs, xs = runL l acts := ⟨_, rfl⟩
  have HXS := Lib.hid hxs
  unfold Dn at hq
  rw [← hxs] at hq HX hlen HG
  clear hxs
  go_wp2_with (go_at_call 19; (with_reducible refine hq.mono ?_); rintro e w1 ⟨r, rfl, hr, hb1⟩; obtain ⟨ra, rcap, rfl⟩ := HX.out r w1 hr; have HR := Lib.hid (hr.read lc_length); clear hq hr HX)
  have HL1 := Lib.hid (HL.out.below hb1)
  go_loopw [8, 19] (fun v i wr => ∃ (k : Nat), k ≤ xs.length ∧ i = .int .i64 k ∧ Rw wr 44 2 fm v (trL l (xs.take k)) ∧ Below w.heap.size w wr ∧ Below w1.heap.size w1 wr ∧ ∀ j ∈ foot v, w1.heap.size ≤ j) (fun _ i _ => xs.length - (intOf i).toNat)
  case atStart => exact ⟨0, Nat.zero_le _, rfl, Rw.nil .., hb1, Below.refl _ _, by simp [foot_nil]⟩
  case round =>
    obtain ⟨k, hk, rfl, ho, hb, hb2, hf⟩ := hrel
    have HO := Lib.hid ho
    have HB := Lib.hid hb
    have HB2 := Lib.hid hb2
    have HF := Lib.hid hf
    clear ho hb hb2 hf
    by_cases hlt : k < xs.length
    · obtain ⟨g, o, rfl, hg, x, hx, hc⟩ := (HR.out.below HB2.out).at_ k hlt
      have c0 : wr.cell? ⟨g, o + k * 2, none⟩ = some (.string x.1) := hc 0 _ rfl
      have c1 : wr.cell? ⟨g, o + k * 2 + 1, none⟩ = some (.int .i64 x.2) := hc 1 _ rfl
      have HXK := Lib.hid hx
      have hgd := HG.out x (List.mem_of_getElem? hx)
      obtain ⟨xs0, xi⟩ := x
      obtain ⟨at', rfl⟩ : ∃ n : Nat, xi = (n : Int) := ⟨xi.toNat, by have := hgd.1; simp only at this ⊢; omega⟩
      have hal : at' < l.length := by have := hgd.2; simp only at this; omega
      obtain ⟨gl, ol, rfl, hgl, y, hy, hcy⟩ := (HL1.out.below HB2.out).at_ at' hal
      have cy0 := st_cell hcy
      have HY := Lib.hid hy
      clear hx hc hgd hcy hy
      go_wp2_with fail
      obtain ⟨W1, hW1⟩ : ∃ W1 : World, W1 = wr.alloc (.cells #[.string xs0, .int .i64 (at' : Nat)] 59) := ⟨_, rfl⟩
      have hBA : Below wr.heap.size wr W1 := by rw [hW1]; exact (Below.refl _ _).alloc (Nat.le_refl _) _
      have hbx : W1.heap[wr.heap.size]? = some (.cells #[.string xs0, .int .i64 (at' : Nat)] 59 (0, 0)) := by rw [hW1]; exact heap_alloc_new wr _
      rw [← hW1]
      have HO1 := Lib.hid (HO.out.below hBA)
      have hgl : gl < W1.heap.size := Nat.lt_of_lt_of_le hgl hBA.size
      have cy : W1.cell? ⟨gl, ol + at', none⟩ = some (.string y) := (hBA.cell (p := ⟨gl, ol + at', none⟩) (World.block_lt_of_cell? _ _ cy0)).trans cy0
      have HBA := Lib.hid hBA
      clear hW1 hBA cy0
      obtain ⟨p, hp⟩ : ∃ p, p = wr.heap.size := ⟨_, rfl⟩
      rw [← hp] at hbx ⊢
      have hpl : p < W1.heap.size := (Array.getElem?_eq_some_iff.1 hbx).1
      have b0 : W1.cell? ⟨p, 0, none⟩ = some (.string xs0) := cell_of_row _ _ 0 _ _ _ hbx
      have b1 : W1.cell? ⟨p, 1, none⟩ = some (.int .i64 (at' : Nat)) := cell_of_row _ _ 1 _ _ _ hbx
      clear hbx hp
      obtain ⟨T1, hT1⟩ : ∃ T1 : Value → World → Prop, T1 = fun v1 w' => Rw w' 44 2 fm v1 (trL l (xs.take k) ++ [((at' : Int), xs0.toList == y.toList)]) ∧ Keep W1 w' (foot u8) ∧ ∀ j ∈ foot v1, j ∈ foot u8 ∨ W1.heap.size ≤ j := ⟨_, rfl⟩
      have H0 : Hid (∀ w', Below W1.heap.size W1 w' → Below W1.heap.size W1 (w'.alloc (.cells #[.int .i64 (at' : Nat), .bool (xs0.toList == y.toList)] 44)) ∧ (true = true → ∃ q, (.slice (some ⟨w'.heap.size, 0, none⟩) 1 1 : Value) = .slice (some ⟨q, 0, none⟩) 1 1 ∧ W1.heap.size ≤ q ∧ (w'.alloc (.cells #[.int .i64 (at' : Nat), .bool (xs0.toList == y.toList)] 44)).heap[q]? = some (.cells #[.int .i64 (at' : Nat), .bool (xs0.toList == y.toList)] 44 (0, 0)))) := fun w' hb =>
        ⟨hb.alloc hb.size _, fun _ => ⟨_, rfl, hb.size, heap_alloc_new w' _⟩⟩
      have HQ : Hid (∀ (w' : World) (q : Nat), Below W1.heap.size W1 w' → w'.heap[q]? = some (.cells #[.int .i64 (at' : Nat), .bool (xs0.toList == y.toList)] 44 (0, 0)) → ∃ v1 w1, (Builtin.append_ #[35, 35] 35 #[u8, .slice (some ⟨q, 0, none⟩) 1 1]).run Tryd.prog w' = .ok v1 w1 ∧ T1 v1 w1) := fun w' q hb hq => by
        obtain ⟨v1, w1, h1, h2, h3, h4⟩ := append_any (P := Tryd.prog) (w := w') 35 35 44 2 16 fm fm_length _ rfl (by omega) Tryd.underlying35 info44 (by omega) u8 (trL l (xs.take k)) ((at' : Int), xs0.toList == y.toList) _ rfl (fm_one _) q hq (HO1.out.below hb) (by unfold trL; rw [List.length_map, List.length_take]; omega)
        refine ⟨v1, w1, h1, ?_⟩
        rw [hT1]
        exact ⟨h2, (Keep.of_below hb _).trans h3, fun j hj => (h4 j hj).imp id (Nat.le_trans hb.size)⟩
      obtain ⟨u0, hu0⟩ : ∃ u0, u0 = u8 := ⟨_, rfl⟩
      rw [← hu0] at HQ hT1 HO HO1 HF ⊢
      clear hu0 c0 c1 hg
      obtain ⟨I, hI⟩ : ∃ I : (Nat → Bool) → Act → World → Prop, ∀ dn ac wc, I dn ac wc ↔ ∃ s8 s23 s24 s25 s26 s27 s28 s29 s30 s31 s32 s33 s34 s35 s36, ac = ⟨#[.slice (some ⟨gl, ol, none⟩) l.length cv, u, undef, undef, .slice none 0 0, .int .i64 0, .slice (some ⟨g, o, none⟩) xs.length rcap, .int .i64 0, s8, undef, .pointer (some ⟨p, 0, none⟩), .tuple #[.slice (some ⟨g, o, none⟩) xs.length rcap, .int .i64 0], .slice (some ⟨gl, ol, none⟩) l.length cv, u, .tuple #[.slice (some ⟨g, o, none⟩) xs.length rcap, .int .i64 0], .slice (some ⟨g, o, none⟩) xs.length rcap, .int .i64 0, .slice (some ⟨g, o, none⟩) xs.length rcap, .int .i64 (xs.length : Nat), .int .i64 (k : Nat), .bool true, .pointer (some ⟨g, o + k * 2, none⟩), .agg #[.string xs0, .int .i64 (at' : Nat)], s23, s24, s25, s26, s27, s28, s29, s30, s31, s32, s33, s34, s35, s36, u37, undef, undef], []⟩ ∧
        St2 wc dn [(0, u0, s23), (1, .pointer (some ⟨p, 1, none⟩), s24), (2, .int .i64 (at' : Nat), s25), (3, .pointer (some ⟨p, 0, none⟩), s26), (4, .string xs0, s27), (5, .slice (some ⟨gl, ol, none⟩) l.length cv, s28), (6, .pointer (some ⟨p, 1, none⟩), s29), (7, .int .i64 (at' : Nat), s30), (8, .pointer (some ⟨gl, ol + at', none⟩), s31), (9, .string y, s32), (10, .bool (xs0.toList == y.toList), s33), (11, .agg #[.int .i64 (at' : Nat), .bool (xs0.toList == y.toList)], s34)] (fun w' => Below W1.heap.size W1 w' ∧ (dn 12 = true → ∃ q, s35 = .slice (some ⟨q, 0, none⟩) 1 1 ∧ W1.heap.size ≤ q ∧ w'.heap[q]? = some (.cells #[.int .i64 (at' : Nat), .bool (xs0.toList == y.toList)] 44 (0, 0))) ∧ s8 = u0) (fun w' => T1 s36 w' ∧ s8 = u0) (fun w' => T1 s8 w') 13 14 [0, 1, 2, 3, 4, 5, 6, 7, 8, 9, 10, 11, 12] := ⟨_, fun _ _ _ => Iff.rfl⟩
      have HI := Lib.hid hI
      clear hI
      refine wp_region_invC (by kernel_rfl) (by kernel_rfl) I ?_ ?_ ?_
      · exact (HI.out _ _ _).2 ⟨_, _, _, _, _, _, _, _, _, _, _, _, _, _, _, rfl, St2.start _ _ _ _ _ _ _ _ ⟨Below.refl _ _, (fun h => by cases h), rfl⟩ (fun w1 w2 h hb => ⟨h.1.trans (hb.mono h.1.size), (fun h => by cases h), h.2.2⟩)⟩
      · intro i o dn ac wc ho hd hdep hcl hIn
        obtain ⟨s8, s23, s24, s25, s26, s27, s28, s29, s30, s31, s32, s33, s34, s35, s36, rfl, hT⟩ := (HI.out _ _ _).1 hIn
        clear hIn
        rcases i with _ | _ | _ | _ | _ | _ | _ | _ | _ | _ | _ | _ | _ | _ | _ | i
        · obtain rfl := Option.some.inj ho
          have hS := hT.at0 0 hd (by decide)
          have hs3 := hS.2.2.symm
          clear hS
          subst hs3
          have hS := True.intro
          have HT := Lib.hid hT
          clear hT hdep hcl
          clear hS
          refine .inl ?_
          unfold Oper.wp
          go_simp
          exact (HI.out _ _ _).2 ⟨_, _, _, _, _, _, _, _, _, _, _, _, _, _, _, rfl, (HT.out).put 0 0 (u0) (by decide) rfl⟩
        · obtain rfl := Option.some.inj ho
          have HT := Lib.hid hT
          clear hT hdep hcl
          refine .inl ?_
          unfold Oper.wp
          go_simp
          exact (HI.out _ _ _).2 ⟨_, _, _, _, _, _, _, _, _, _, _, _, _, _, _, rfl, (HT.out).put 1 1 (.pointer (some ⟨p, 1, none⟩)) (by decide) rfl⟩
        · obtain rfl := Option.some.inj ho
          have e1 := hT.vals _ (List.Mem.tail _ (List.Mem.head _)) (hdep ⟨1, .data⟩ (by simp) rfl)
          dsimp only at e1
          subst e1
          have hS := hT.at0 2 hd (by decide)
          have l1 := (hS.1.cell (p := ⟨p, 1, none⟩) hpl).trans b1
          have HT := Lib.hid hT
          clear hT hdep hcl
          clear hS
          refine .inl ?_
          unfold Oper.wp
          go_simp
          exact (HI.out _ _ _).2 ⟨_, _, _, _, _, _, _, _, _, _, _, _, _, _, _, rfl, (HT.out).put 2 2 (.int .i64 (at' : Nat)) (by decide) rfl⟩
        · obtain rfl := Option.some.inj ho
          have HT := Lib.hid hT
          clear hT hdep hcl
          refine .inl ?_
          unfold Oper.wp
          go_simp
          exact (HI.out _ _ _).2 ⟨_, _, _, _, _, _, _, _, _, _, _, _, _, _, _, rfl, (HT.out).put 3 3 (.pointer (some ⟨p, 0, none⟩)) (by decide) rfl⟩
        · obtain rfl := Option.some.inj ho
          have e3 := hT.vals _ (List.Mem.tail _ (List.Mem.tail _ (List.Mem.tail _ (List.Mem.head _)))) (hdep ⟨3, .data⟩ (by simp) rfl)
          dsimp only at e3
          subst e3
          have hS := hT.at0 4 hd (by decide)
          have l0 := (hS.1.cell (p := ⟨p, 0, none⟩) hpl).trans b0
          have HT := Lib.hid hT
          clear hT hdep hcl
          clear hS
          refine .inl ?_
          unfold Oper.wp
          go_simp
          exact (HI.out _ _ _).2 ⟨_, _, _, _, _, _, _, _, _, _, _, _, _, _, _, rfl, (HT.out).put 4 4 (.string xs0) (by decide) rfl⟩
        · obtain rfl := Option.some.inj ho
          have HT := Lib.hid hT
          clear hT hdep hcl
          refine .inl ?_
          unfold Oper.wp
          go_simp
          exact (HI.out _ _ _).2 ⟨_, _, _, _, _, _, _, _, _, _, _, _, _, _, _, rfl, (HT.out).put 5 5 (.slice (some ⟨gl, ol, none⟩) l.length cv) (by decide) rfl⟩
        · obtain rfl := Option.some.inj ho
          have HT := Lib.hid hT
          clear hT hdep hcl
          refine .inl ?_
          unfold Oper.wp
          go_simp
          exact (HI.out _ _ _).2 ⟨_, _, _, _, _, _, _, _, _, _, _, _, _, _, _, rfl, (HT.out).put 6 6 (.pointer (some ⟨p, 1, none⟩)) (by decide) rfl⟩
        · obtain rfl := Option.some.inj ho
          have e6 := hT.vals _ (List.Mem.tail _ (List.Mem.tail _ (List.Mem.tail _ (List.Mem.tail _ (List.Mem.tail _ (List.Mem.tail _ (List.Mem.head _))))))) (hdep ⟨6, .data⟩ (by simp) rfl)
          dsimp only at e6
          subst e6
          have hS := hT.at0 7 hd (by decide)
          have l1 := (hS.1.cell (p := ⟨p, 1, none⟩) hpl).trans b1
          have HT := Lib.hid hT
          clear hT hdep hcl
          clear hS
          refine .inl ?_
          unfold Oper.wp
          go_simp
          exact (HI.out _ _ _).2 ⟨_, _, _, _, _, _, _, _, _, _, _, _, _, _, _, rfl, (HT.out).put 7 7 (.int .i64 (at' : Nat)) (by decide) rfl⟩
        · obtain rfl := Option.some.inj ho
          have e5 := hT.vals _ (List.Mem.tail _ (List.Mem.tail _ (List.Mem.tail _ (List.Mem.tail _ (List.Mem.tail _ (List.Mem.head _)))))) (hdep ⟨5, .data⟩ (by simp) rfl)
          dsimp only at e5
          subst e5
          have e7 := hT.vals _ (List.Mem.tail _ (List.Mem.tail _ (List.Mem.tail _ (List.Mem.tail _ (List.Mem.tail _ (List.Mem.tail _ (List.Mem.tail _ (List.Mem.head _)))))))) (hdep ⟨7, .data⟩ (by simp) rfl)
          dsimp only at e7
          subst e7
          have HT := Lib.hid hT
          clear hT hdep hcl
          refine .inl ?_
          unfold Oper.wp
          go_simp
          exact (HI.out _ _ _).2 ⟨_, _, _, _, _, _, _, _, _, _, _, _, _, _, _, rfl, (HT.out).put 8 8 (.pointer (some ⟨gl, ol + at', none⟩)) (by decide) rfl⟩
        · obtain rfl := Option.some.inj ho
          have e8 := hT.vals _ (List.Mem.tail _ (List.Mem.tail _ (List.Mem.tail _ (List.Mem.tail _ (List.Mem.tail _ (List.Mem.tail _ (List.Mem.tail _ (List.Mem.tail _ (List.Mem.head _))))))))) (hdep ⟨8, .data⟩ (by simp) rfl)
          dsimp only at e8
          subst e8
          have hS := hT.at0 9 hd (by decide)
          have l2 := (hS.1.cell (p := ⟨gl, ol + at', none⟩) hgl).trans cy
          have HT := Lib.hid hT
          clear hT hdep hcl
          clear hS
          refine .inl ?_
          unfold Oper.wp
          go_simp
          exact (HI.out _ _ _).2 ⟨_, _, _, _, _, _, _, _, _, _, _, _, _, _, _, rfl, (HT.out).put 9 9 (.string y) (by decide) rfl⟩
        · obtain rfl := Option.some.inj ho
          have e4 := hT.vals _ (List.Mem.tail _ (List.Mem.tail _ (List.Mem.tail _ (List.Mem.tail _ (List.Mem.head _))))) (hdep ⟨4, .data⟩ (by simp) rfl)
          dsimp only at e4
          subst e4
          have e9 := hT.vals _ (List.Mem.tail _ (List.Mem.tail _ (List.Mem.tail _ (List.Mem.tail _ (List.Mem.tail _ (List.Mem.tail _ (List.Mem.tail _ (List.Mem.tail _ (List.Mem.tail _ (List.Mem.head _)))))))))) (hdep ⟨9, .data⟩ (by simp) rfl)
          dsimp only at e9
          subst e9
          have HT := Lib.hid hT
          clear hT hdep hcl
          refine .inl ?_
          unfold Oper.wp
          go_simp
          exact (HI.out _ _ _).2 ⟨_, _, _, _, _, _, _, _, _, _, _, _, _, _, _, rfl, (HT.out).put 10 10 (.bool (xs0.toList == y.toList)) (by decide) rfl⟩
        · obtain rfl := Option.some.inj ho
          have e2 := hT.vals _ (List.Mem.tail _ (List.Mem.tail _ (List.Mem.head _))) (hdep ⟨2, .data⟩ (by simp) rfl)
          dsimp only at e2
          subst e2
          have e10 := hT.vals _ (List.Mem.tail _ (List.Mem.tail _ (List.Mem.tail _ (List.Mem.tail _ (List.Mem.tail _ (List.Mem.tail _ (List.Mem.tail _ (List.Mem.tail _ (List.Mem.tail _ (List.Mem.tail _ (List.Mem.head _))))))))))) (hdep ⟨10, .data⟩ (by simp) rfl)
          dsimp only at e10
          subst e10
          have HT := Lib.hid hT
          clear hT hdep hcl
          refine .inl ?_
          unfold Oper.wp
          go_simp
          exact (HI.out _ _ _).2 ⟨_, _, _, _, _, _, _, _, _, _, _, _, _, _, _, rfl, (HT.out).put 11 11 (.agg #[.int .i64 (at' : Nat), .bool (xs0.toList == y.toList)]) (by decide) rfl⟩
        · obtain rfl := Option.some.inj ho
          have e11 := hT.vals _ (List.Mem.tail _ (List.Mem.tail _ (List.Mem.tail _ (List.Mem.tail _ (List.Mem.tail _ (List.Mem.tail _ (List.Mem.tail _ (List.Mem.tail _ (List.Mem.tail _ (List.Mem.tail _ (List.Mem.tail _ (List.Mem.head _)))))))))))) (hdep ⟨11, .data⟩ (by simp) rfl)
          dsimp only at e11
          subst e11
          have hS := hT.at0 12 hd (by decide)
          have h0 := H0.out wc hS.1
          have hnew := Lib.hid (And.intro h0.1 (And.intro h0.2 hS.2.2))
          clear h0
          have HT := Lib.hid hT
          have HD := Lib.hid hd
          clear hT hdep hcl hd hS
          refine .inl ?_
          unfold Oper.wp
          go_simp
          exact (HI.out _ _ _).2 ⟨_, _, _, _, _, _, _, _, _, _, _, _, _, _, _, rfl, HT.out.midW 12 HD.out (by decide) (by decide) rfl hnew.out⟩
        · obtain rfl := Option.some.inj ho
          have e0 := hT.vals _ (List.Mem.head _) (hdep ⟨0, .data⟩ (by simp) rfl)
          dsimp only at e0
          subst e0
          have d0 := hdep ⟨0, .data⟩ (by simp) rfl
          have d12 := hdep ⟨12, .data⟩ (by simp) rfl
          have d11 := hcl 12 _ rfl d12 ⟨11, .data⟩ (by simp) rfl
          have d2 := hcl 11 _ rfl d11 ⟨2, .data⟩ (by simp) rfl
          have d10 := hcl 11 _ rfl d11 ⟨10, .data⟩ (by simp) rfl
          have d1 := hcl 2 _ rfl d2 ⟨1, .data⟩ (by simp) rfl
          have d4 := hcl 10 _ rfl d10 ⟨4, .data⟩ (by simp) rfl
          have d9 := hcl 10 _ rfl d10 ⟨9, .data⟩ (by simp) rfl
          have d3 := hcl 4 _ rfl d4 ⟨3, .data⟩ (by simp) rfl
          have d8 := hcl 9 _ rfl d9 ⟨8, .data⟩ (by simp) rfl
          have d5 := hcl 8 _ rfl d8 ⟨5, .data⟩ (by simp) rfl
          have d7 := hcl 8 _ rfl d8 ⟨7, .data⟩ (by simp) rfl
          have d6 := hcl 7 _ rfl d7 ⟨6, .data⟩ (by simp) rfl
          have hpre : ∀ e ∈ [0, 1, 2, 3, 4, 5, 6, 7, 8, 9, 10, 11, 12], dn e = true := by
            intro e he
            simp only [List.mem_cons, List.not_mem_nil, or_false] at he
            rcases he with rfl | rfl | rfl | rfl | rfl | rfl | rfl | rfl | rfl | rfl | rfl | rfl | rfl
            · exact d0
            · exact d1
            · exact d2
            · exact d3
            · exact d4
            · exact d5
            · exact d6
            · exact d7
            · exact d8
            · exact d9
            · exact d10
            · exact d11
            · exact d12
          have hS := hT.at0 13 hd (by decide)
          obtain ⟨hSb, hSq, hSu⟩ := hS
          obtain ⟨q, rfl, hq1, hq2⟩ := hSq d12
          obtain ⟨v9, w9, hr, ht1⟩ := HQ.out wc q hSb hq2
          have hnew := Lib.hid (And.intro ht1 hSu)
          have HT := Lib.hid hT
          clear hT hdep hcl
          refine .inl (Lib.wp_append_run wc (.tmp 23) (.tmp 35) 35 35 rfl _ _ rfl rfl v9 w9 hr ?_)
          exact (HI.out _ _ _).2 ⟨_, _, _, _, _, _, _, _, _, _, _, _, _, _, _, rfl, HT.out.fstV hd (by decide) hpre rfl hnew.out⟩
        · obtain rfl := Option.some.inj ho
          have hi1 := hdep ⟨13, .data⟩ (by simp) rfl
          have hS := hT.at1 hd hi1
          have hnew := Lib.hid hS.1
          have HT := Lib.hid hT
          clear hT hdep hcl hS
          refine .inl ?_
          unfold Oper.wp
          go_simp
          exact (HI.out _ _ _).2 ⟨_, _, _, _, _, _, _, _, _, _, _, _, _, _, _, rfl, HT.out.sndV (by decide) hi1 rfl hnew.out⟩
        · cases ho
      · intro dn ac wc hd hIn
        obtain ⟨s8, s23, s24, s25, s26, s27, s28, s29, s30, s31, s32, s33, s34, s35, s36, rfl, hT⟩ := (HI.out _ _ _).1 hIn
        have hF := Lib.hid (hT.done (hd 14 (by decide)))
        clear HI hIn hT hd
        have hF2 := hF.out
        rw [hT1] at hF2
        have HF2 := Lib.hid hF2
        clear hF2 hF
        obtain ⟨sa, sc, hs3⟩ := HF2.out.1.shape
        have HS3 := Lib.hid hs3
        clear hs3
        go_wp2_with fail
        go_roundw
        case rel =>
          have e1 : trL l (xs.take k) ++ [((at' : Int), xs0.toList == y.toList)] = trL l (xs.take (k + 1)) := by rw [List.take_add_one, HXK.out]; simp [trL, trI, List.getD_eq_getElem?_getD, HY.out]
          have h9 := HF2.out
          rw [e1] at h9
          have hK : Keep wr wc (foot u0) := (Keep.of_below HBA.out _).trans h9.2.1
          refine ⟨k + 1, by omega, by go_num, h9.1, ?_, ?_, fun j hj => ?_⟩
          · exact hK.below HB.out (fun j hj => Nat.le_trans hb1.size (HF.out j hj))
          · exact hK.below HB2.out (fun j hj => HF.out j hj)
          · rcases h9.2.2 j hj with h | h
            · exact HF.out j h
            · exact Nat.le_trans HB2.out.size (Nat.le_trans HBA.out.size h)
        case measure => simp [intOf]; omega
    · have e1 : xs.take k = xs := List.take_of_length_le (by omega)
      have HO3 := HO.out
      rw [e1] at HO3
      have HO4 := Lib.hid HO3
      clear HO3
      go_wp2_with fail
      go_ret2
      exact ⟨_, rfl, by rw [← HXS.out]; exact HO4.out, HB.out⟩
end Go.Proofs.YthoemgiadadfcaaDoor
