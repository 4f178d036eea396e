/- Acts done: the walk. -/
import Derived.Test.YthoemgiadadfcaaDoorRdRun
set_option linter.unusedVariables false
set_option linter.unusedSimpArgs false
namespace Go.Proofs.YthoemgiadadfcaaDoor
open Go.RowKit Go.Sort Rd
theorem kd_ok (x : Ac) (h : wrg x = 0) : kd x.w < 5 := by
  unfold wrg at h
  by_cases hk : 5 ≤ kd x.w
  · rw [if_pos hk] at h; cases h
  · omega
set_option maxRecDepth 100000 in
set_option maxHeartbeats 1600000 in
theorem done_bad (v u : Value) (l : List ByteArray) (acts : List Ac) (w : World) (h' : Rr w 4 ac u acts) (hn' : acts.length ≤ 1000) (hw : wrs acts ≠ 0) :
    Calls Tryd.prog 19 #[v, u] w fun e w' => e = .returned (.tuple #[.slice none 0 0, .int .i64 (wrs acts)]) ∧ Below w.heap.size w w' := by
  have hq := right_is u acts w h' (by omega)
  have hw0 : (wrs acts != 0) = true := by simpa using hw
  clear hw
  go_enter Tryd.func19, Tryd.ntmps19
  go_wp2_with (go_at_call 14; (with_reducible refine hq.mono ?_); rintro e w1 ⟨rfl, hb1⟩; clear hq)
  go_ret2
  exact ⟨rfl, hb1⟩
/-- What done leaves. -/
def Dn (w : World) (l : List ByteArray) (acts : List Ac) (e : Ending) (w' : World) : Prop := ∃ r, e = .returned (.tuple #[r, .int .i64 0]) ∧ Rw w' 59 2 lc r (runL l acts) ∧ Below w.heap.size w w'
theorem Lb.keepB {w w' : World} {p : Nat} {v : Value} {xs : List It} {F : List Nat} (h : Lb w p v xs) (hk : Keep w w' F) (hp : p ∉ F) (hd : ∀ j ∈ foot v, j ∉ F) : Lb w' p v xs :=
  ⟨(hk.block p h.lt hp).trans h.box, h.own.keep hk hd⟩
theorem run_take (xs : List It) (acts : List Ac) (k : Nat) (x : Ac) (h : acts[k]? = some x) : (acts.take (k + 1)).foldl (fun xs x => deedL x xs) xs = deedL x ((acts.take k).foldl (fun xs x => deedL x xs) xs) := by
  rw [List.take_add_one, h, Option.toList_some, List.foldl_append]; rfl
theorem initL_take (l : List ByteArray) (k : Nat) (s : ByteArray) (h : l[k]? = some s) : initL (l.take (k + 1)) = initL (l.take k) ++ [(s, (k : Int))] := by
  have hk := (List.getElem?_eq_some_iff.1 h).1
  rw [List.take_add_one, h, Option.toList_some, initL_snoc, List.length_take, Nat.min_eq_left (by omega)]
theorem Lb.app {w w2 : World} {p g n cap : Nat} {v : Value} {xs ys : List It} (h : Lb w p v xs) (ho : Rw w2 59 2 lc (.slice (some ⟨g, 0, none⟩) n cap) ys) (hk : Keep w w2 (foot v)) (hat : g ∈ foot v ∨ w.heap.size ≤ g) :
    w2.cell? ⟨p, 0, none⟩ = some v ∧ w2.frozen? ⟨p, 0, none⟩ = false ∧ Lb (w2.setCell ⟨p, 0, none⟩ (.slice (some ⟨g, 0, none⟩) n cap)) p (.slice (some ⟨g, 0, none⟩) n cap) ys ∧ Keep w (w2.setCell ⟨p, 0, none⟩ (.slice (some ⟨g, 0, none⟩) n cap)) (p :: foot v) := by
  have hr := (hk.block p h.lt h.out).trans h.box
  have hgp : g ≠ p := fun e => by
    subst e
    rcases hat with h9 | h9
    · exact h.out h9
    · have := h.lt; omega
  refine ⟨cell_of_row _ _ 0 _ 55 (0, 0) hr, by simp [World.frozen?, hr], ⟨heap_setCell_same w2 p 0 _ 55 _ hr, ho.keep (Keep.setCell _ _ _ [p] (by simp)) (by simpa [foot_slice] using hgp)⟩, (hk.mono (fun j hj => .inl (List.mem_cons_of_mem _ hj))).trans (Keep.setCell _ _ _ _ (by simp))⟩
set_option maxRecDepth 100000 in
set_option maxHeartbeats 3200000 in
theorem done_ok (v u : Value) (l : List ByteArray) (acts : List Ac) (w : World) (h : Rr w 1 st v l) (h' : Rr w 4 ac u acts) (hn : l.length ≤ 1000) (hn' : acts.length ≤ 1000) (hs : ∀ s ∈ l, s.size ≤ 140737488355328) (hw : wrs acts = 0) :
    Calls Tryd.prog 19 #[v, u] w (Dn w l acts) := by
  have hq : Calls Tryd.prog 14 #[u] w fun e w' => e = .returned (.int .i64 0) ∧ Below w.heap.size w w' := by have := right_is u acts w h' (by omega); rw [hw] at this; exact this
  have HW := Lib.hid (wrs_all acts hw)
  have HSZ := Lib.hid hs
  have HX := Lib.hid h
  have HY := Lib.hid h'
  obtain ⟨pa, cap, hv, _⟩ := h
  obtain ⟨qa, cap2, hu, _⟩ := h'
  subst hv hu
  clear hw hs
  go_enter Tryd.func19, Tryd.ntmps19
  go_wp2_with (go_at_call 14; (with_reducible refine hq.mono ?_); rintro e w1 ⟨rfl, hb1⟩; clear hq)
  have hL0 : Lb (w1.alloc (.cells #[.slice none 0 0] 55)) w1.heap.size (.slice none 0 0) (initL (l.take 0)) := ⟨heap_alloc_new w1 _, Rw.nil ..⟩
  have hB0 : Below w.heap.size w (w1.alloc (.cells #[.slice none 0 0] 55)) := hb1.alloc hb1.size _
  have hp : w.heap.size ≤ w1.heap.size := hb1.size
  have hlm : (l.length : Int) ≤ 1000 := by omega
  clear hb1
  generalize w1.alloc (.cells #[.slice none 0 0] 55) = W0 at *
  generalize w1.heap.size = p at *
  go_loopw [20] (fun i wr => ∃ (k : Nat) (v : Value), k ≤ l.length ∧ i = .int .i64 k ∧ Lb wr p v (initL (l.take k)) ∧ Below w.heap.size w wr ∧ ∀ j ∈ foot v, w.heap.size ≤ j) (fun i _ => l.length - (intOf i).toNat)
  case atStart => exact ⟨0, _, Nat.zero_le _, rfl, hL0, hB0, by simp [foot_nil]⟩
  case round =>
    clear hL0 hB0
    obtain ⟨k, v, hk, rfl, hL, hb, hf⟩ := hrel
    have HL := Lib.hid hL
    have HB := Lib.hid hb
    have HF := Lib.hid hf
    clear hb hf
    by_cases hlt : k < l.length
    · obtain ⟨g, o, rfl, hg, s, hx, hc⟩ := (HX.out.below HB.out).at_ k hlt
      have c0 := st_cell hc
      have cp := hL.cell
      have hlen : (initL (l.take k)).length = k := by rw [initL_length, List.length_take]; omega
      have HXK := Lib.hid hx
      have HLN := Lib.hid hlen
      clear hx hc hL hlen
      go_wp2_with (at_builtin; refine append_k rfl _ _ 55 59 2 24 lc lc_length _ rfl (by omega) rfl Tryd.underlying55 info59 (by omega) v (initL (l.take k)) (s, (k : Int)) _ rfl (lc_one _) rfl rfl HL.out.own (by have := HLN.out; omega) ?_; intro g2 cap3 w2 ho hk2 hat; obtain ⟨m1, m2, m3, m4⟩ := HL.out.app ho hk2 hat; clear c0 cp)
      go_roundw
      case rel =>
        have e1 := initL_take l k s HXK.out
        rw [← e1] at m3 m4
        have e2 : (initL (l.take (k + 1))).length = (initL (l.take k)).length + 1 := by rw [e1]; simp
        rw [e2] at m3 m4
        refine ⟨k + 1, _, by omega, by go_num, m3, m4.below HB.out (fun j hj => ?_), fun j hj => ?_⟩
        · rcases List.mem_cons.1 hj with rfl | hj
          · exact hp
          · exact HF.out j hj
        · rw [foot_slice, List.mem_singleton] at hj
          subst hj
          rcases hat with h9 | h9
          · exact HF.out _ h9
          · exact Nat.le_trans HB.out.size h9
      case measure => simp [intOf]; omega
    · have e1 : l.take k = l := List.take_of_length_le (by omega)
      rw [e1] at HL
      clear hL
      go_wp2_with (go_at_call 22; (with_reducible refine (deeds_is wr).mono ?_); rintro e w2 ⟨r, rfl, hr, hm, hb2⟩)
      have hL0 : Lb w2 p v ((acts.take 0).foldl (fun xs x => deedL x xs) (initL l)) := HL.out.below hb2
      have hB0 : Below w.heap.size w w2 := HB.out.trans (hb2.mono HB.out.size)
      have hF0 := HF.out
      have hr0 : w.heap.size ≤ r := Nat.le_trans HB.out.size hr
      clear hr hb2 HL HB HF e1
      go_loopw [35] (fun i wr => ∃ (k : Nat) (v : Value), k ≤ acts.length ∧ i = .int .i64 k ∧ Lb wr p v ((acts.take k).foldl (fun xs x => deedL x xs) (initL l)) ∧ wr.heap[r]? = some (.map ES 5) ∧ Below w.heap.size w wr ∧ ∀ j ∈ foot v, w.heap.size ≤ j) (fun i _ => acts.length - (intOf i).toNat)
      case atStart => exact ⟨0, _, Nat.zero_le _, rfl, hL0, hm, hB0, hF0⟩
      case round =>
        clear hL0 hB0 hm hF0
        obtain ⟨m, v, hmk, rfl, hL, hM, hb, hf⟩ := hrel
        by_cases hmt : m < acts.length
        · obtain ⟨g, o, rfl, hg, x, hx, hc⟩ := (HY.out.below hb).at_ m hmt
          obtain ⟨c0, c1, c2, c3⟩ := ac_cells hc
          have hk5 := kd_ok x (HW.out x (List.mem_of_getElem? hx))
          have hBA : Below wr.heap.size wr (wr.alloc (.cells #[.string x.w, .int .i64 x.a, .int .i64 x.b, .int .i64 x.c] 50)) := (Below.refl _ _).alloc (Nat.le_refl _) _
          have hMA := (hBA.block r (Array.getElem?_eq_some_iff.1 hM).1).trans hM
          have hLA := hL.below hBA
          have hLn : ((acts.take m).foldl (fun xs x => deedL x xs) (initL l)).length ≤ 100000 := by
            have h1 := fold_le (acts.take m) (initL l)
            rw [initL_length, List.length_take] at h1
            omega
          have hLs : Sz 140737488355328 ((acts.take m).foldl (fun xs x => deedL x xs) (initL l)) := fold_sz _ _ _ (initL_sz _ _ HSZ.out)
          have hcl : ∀ w3, Dd (wr.alloc (.cells #[.string x.w, .int .i64 x.a, .int .i64 x.b, .int .i64 x.c] 50)) w3 p v (deedL x ((acts.take m).foldl (fun xs x => deedL x xs) (initL l))) →
              ∃ v2, Lb w3 p v2 ((acts.take (m + 1)).foldl (fun xs x => deedL x xs) (initL l)) ∧ w3.heap[r]? = some (.map ES 5) ∧ Below w.heap.size w w3 ∧ ∀ j ∈ foot v2, w.heap.size ≤ j := fun w3 hd => by
            obtain ⟨v2, h1, h2, h3⟩ := hd
            have hrp : r ∉ p :: foot v := fun h => by
              rcases List.mem_cons.1 h with rfl | h
              · have := hLA.box; rw [hMA] at this; cases this
              · rcases hLA.own.2 with ⟨h9, _⟩ | ⟨g9, cap9, cur9, h9, _, hh9, _⟩
                · rw [h9] at h; simp [foot, Value.ownBlock] at h
                · rw [h9] at h
                  simp [foot, Value.ownBlock] at h
                  subst h
                  rw [hMA] at hh9; cases hh9
            have hF : ∀ j ∈ p :: foot v, w.heap.size ≤ j := fun j hj => by
              rcases List.mem_cons.1 hj with rfl | hj
              · exact hp
              · exact hf j hj
            refine ⟨v2, by rw [run_take _ _ _ _ hx]; exact h1, ?_, h2.below (hb.trans (hBA.mono hb.size)) hF, fun j hj => ?_⟩
            · exact (h2.block r (Array.getElem?_eq_some_iff.1 hMA).1 hrp).trans hMA
            · rcases h3 j hj with h9 | h9
              · exact hf j h9
              · exact Nat.le_trans (hb.trans (hBA.mono hb.size)).size h9
          have HB := Lib.hid hb
          clear hx hc hBA hL hM hb hf
          have hq5 : kd x.w = 0 ∨ kd x.w = 1 ∨ kd x.w = 2 ∨ kd x.w = 3 ∨ kd x.w = 4 := by omega
          clear hk5
          rcases hq5 with hkk | hkk | hkk | hkk | hkk
          · have hlk : (Instr.lookup 73 (.map (some r)) (.string x.w) false).run Tryd.prog (wr.alloc (.cells #[.string x.w, .int .i64 x.a, .int .i64 x.b, .int .i64 x.c] 50)) = .ok (.agg #[.int .i64 1, .func (.func 30) #[] #[]]) (wr.alloc (.cells #[.string x.w, .int .i64 x.a, .int .i64 x.b, .int .i64 x.c] 50)) := by
              have h9 := look_is x.w r _ false hMA
              rw [hkk] at h9; exact h9
            have hdd : Calls Tryd.prog 30 #[.pointer (some ⟨p, 0, none⟩), .agg #[.int .i64 x.a, .int .i64 x.b, .int .i64 x.c]] (wr.alloc (.cells #[.string x.w, .int .i64 x.a, .int .i64 x.b, .int .i64 x.c] 50)) fun e w' => e = .returned (.tuple #[]) ∧ Dd (wr.alloc (.cells #[.string x.w, .int .i64 x.a, .int .i64 x.b, .int .i64 x.c] 50)) w' p v (deedL x ((acts.take m).foldl (fun xs x => deedL x xs) (initL l))) := deed_is 0 (by omega) p v _ x hkk _ hLA hLn hLs
            have hfl : ∀ W : World, (Instr.field 72 (.agg #[.int .i64 1, .func (.func 30) #[] #[]]) 1).run Tryd.prog W = .ok (.func (.func 30) #[] #[]) W := fun _ => by kernel_rfl
            have HC := Lib.hid hcl
            clear hkk hMA hLA hLn hLs hcl
            go_wp2_with (go_at_call 30; (with_reducible refine hdd.mono ?_); rintro e w3 ⟨rfl, hd⟩; have HDD := Lib.hid hd; clear hd hdd hlk hfl)
            go_roundw
            case rel =>
              obtain ⟨v2, h1, h2, h3, h4⟩ := HC.out _ HDD.out
              exact ⟨m + 1, v2, by omega, by go_num, h1, h2, h3, h4⟩
            case measure => simp [intOf]; omega
          · have hlk : (Instr.lookup 73 (.map (some r)) (.string x.w) false).run Tryd.prog (wr.alloc (.cells #[.string x.w, .int .i64 x.a, .int .i64 x.b, .int .i64 x.c] 50)) = .ok (.agg #[.int .i64 1, .func (.func 31) #[] #[]]) (wr.alloc (.cells #[.string x.w, .int .i64 x.a, .int .i64 x.b, .int .i64 x.c] 50)) := by
              have h9 := look_is x.w r _ false hMA
              rw [hkk] at h9; exact h9
            have hdd : Calls Tryd.prog 31 #[.pointer (some ⟨p, 0, none⟩), .agg #[.int .i64 x.a, .int .i64 x.b, .int .i64 x.c]] (wr.alloc (.cells #[.string x.w, .int .i64 x.a, .int .i64 x.b, .int .i64 x.c] 50)) fun e w' => e = .returned (.tuple #[]) ∧ Dd (wr.alloc (.cells #[.string x.w, .int .i64 x.a, .int .i64 x.b, .int .i64 x.c] 50)) w' p v (deedL x ((acts.take m).foldl (fun xs x => deedL x xs) (initL l))) := deed_is 1 (by omega) p v _ x hkk _ hLA hLn hLs
            have hfl : ∀ W : World, (Instr.field 72 (.agg #[.int .i64 1, .func (.func 31) #[] #[]]) 1).run Tryd.prog W = .ok (.func (.func 31) #[] #[]) W := fun _ => by kernel_rfl
            have HC := Lib.hid hcl
            clear hkk hMA hLA hLn hLs hcl
            go_wp2_with (go_at_call 31; (with_reducible refine hdd.mono ?_); rintro e w3 ⟨rfl, hd⟩; have HDD := Lib.hid hd; clear hd hdd hlk hfl)
            go_roundw
            case rel =>
              obtain ⟨v2, h1, h2, h3, h4⟩ := HC.out _ HDD.out
              exact ⟨m + 1, v2, by omega, by go_num, h1, h2, h3, h4⟩
            case measure => simp [intOf]; omega
          · have hlk : (Instr.lookup 73 (.map (some r)) (.string x.w) false).run Tryd.prog (wr.alloc (.cells #[.string x.w, .int .i64 x.a, .int .i64 x.b, .int .i64 x.c] 50)) = .ok (.agg #[.int .i64 2, .func (.func 32) #[] #[]]) (wr.alloc (.cells #[.string x.w, .int .i64 x.a, .int .i64 x.b, .int .i64 x.c] 50)) := by
              have h9 := look_is x.w r _ false hMA
              rw [hkk] at h9; exact h9
            have hdd : Calls Tryd.prog 32 #[.pointer (some ⟨p, 0, none⟩), .agg #[.int .i64 x.a, .int .i64 x.b, .int .i64 x.c]] (wr.alloc (.cells #[.string x.w, .int .i64 x.a, .int .i64 x.b, .int .i64 x.c] 50)) fun e w' => e = .returned (.tuple #[]) ∧ Dd (wr.alloc (.cells #[.string x.w, .int .i64 x.a, .int .i64 x.b, .int .i64 x.c] 50)) w' p v (deedL x ((acts.take m).foldl (fun xs x => deedL x xs) (initL l))) := deed_is 2 (by omega) p v _ x hkk _ hLA hLn hLs
            have hfl : ∀ W : World, (Instr.field 72 (.agg #[.int .i64 2, .func (.func 32) #[] #[]]) 1).run Tryd.prog W = .ok (.func (.func 32) #[] #[]) W := fun _ => by kernel_rfl
            have HC := Lib.hid hcl
            clear hkk hMA hLA hLn hLs hcl
            go_wp2_with (go_at_call 32; (with_reducible refine hdd.mono ?_); rintro e w3 ⟨rfl, hd⟩; have HDD := Lib.hid hd; clear hd hdd hlk hfl)
            go_roundw
            case rel =>
              obtain ⟨v2, h1, h2, h3, h4⟩ := HC.out _ HDD.out
              exact ⟨m + 1, v2, by omega, by go_num, h1, h2, h3, h4⟩
            case measure => simp [intOf]; omega
          · have hlk : (Instr.lookup 73 (.map (some r)) (.string x.w) false).run Tryd.prog (wr.alloc (.cells #[.string x.w, .int .i64 x.a, .int .i64 x.b, .int .i64 x.c] 50)) = .ok (.agg #[.int .i64 3, .func (.func 33) #[] #[]]) (wr.alloc (.cells #[.string x.w, .int .i64 x.a, .int .i64 x.b, .int .i64 x.c] 50)) := by
              have h9 := look_is x.w r _ false hMA
              rw [hkk] at h9; exact h9
            have hdd : Calls Tryd.prog 33 #[.pointer (some ⟨p, 0, none⟩), .agg #[.int .i64 x.a, .int .i64 x.b, .int .i64 x.c]] (wr.alloc (.cells #[.string x.w, .int .i64 x.a, .int .i64 x.b, .int .i64 x.c] 50)) fun e w' => e = .returned (.tuple #[]) ∧ Dd (wr.alloc (.cells #[.string x.w, .int .i64 x.a, .int .i64 x.b, .int .i64 x.c] 50)) w' p v (deedL x ((acts.take m).foldl (fun xs x => deedL x xs) (initL l))) := deed_is 3 (by omega) p v _ x hkk _ hLA hLn hLs
            have hfl : ∀ W : World, (Instr.field 72 (.agg #[.int .i64 3, .func (.func 33) #[] #[]]) 1).run Tryd.prog W = .ok (.func (.func 33) #[] #[]) W := fun _ => by kernel_rfl
            have HC := Lib.hid hcl
            clear hkk hMA hLA hLn hLs hcl
            go_wp2_with (go_at_call 33; (with_reducible refine hdd.mono ?_); rintro e w3 ⟨rfl, hd⟩; have HDD := Lib.hid hd; clear hd hdd hlk hfl)
            go_roundw
            case rel =>
              obtain ⟨v2, h1, h2, h3, h4⟩ := HC.out _ HDD.out
              exact ⟨m + 1, v2, by omega, by go_num, h1, h2, h3, h4⟩
            case measure => simp [intOf]; omega
          · have hlk : (Instr.lookup 73 (.map (some r)) (.string x.w) false).run Tryd.prog (wr.alloc (.cells #[.string x.w, .int .i64 x.a, .int .i64 x.b, .int .i64 x.c] 50)) = .ok (.agg #[.int .i64 2, .func (.func 34) #[] #[]]) (wr.alloc (.cells #[.string x.w, .int .i64 x.a, .int .i64 x.b, .int .i64 x.c] 50)) := by
              have h9 := look_is x.w r _ false hMA
              rw [hkk] at h9; exact h9
            have hdd : Calls Tryd.prog 34 #[.pointer (some ⟨p, 0, none⟩), .agg #[.int .i64 x.a, .int .i64 x.b, .int .i64 x.c]] (wr.alloc (.cells #[.string x.w, .int .i64 x.a, .int .i64 x.b, .int .i64 x.c] 50)) fun e w' => e = .returned (.tuple #[]) ∧ Dd (wr.alloc (.cells #[.string x.w, .int .i64 x.a, .int .i64 x.b, .int .i64 x.c] 50)) w' p v (deedL x ((acts.take m).foldl (fun xs x => deedL x xs) (initL l))) := deed_is 4 (by omega) p v _ x hkk _ hLA hLn hLs
            have hfl : ∀ W : World, (Instr.field 72 (.agg #[.int .i64 2, .func (.func 34) #[] #[]]) 1).run Tryd.prog W = .ok (.func (.func 34) #[] #[]) W := fun _ => by kernel_rfl
            have HC := Lib.hid hcl
            clear hkk hMA hLA hLn hLs hcl
            go_wp2_with (go_at_call 34; (with_reducible refine hdd.mono ?_); rintro e w3 ⟨rfl, hd⟩; have HDD := Lib.hid hd; clear hd hdd hlk hfl)
            go_roundw
            case rel =>
              obtain ⟨v2, h1, h2, h3, h4⟩ := HC.out _ HDD.out
              exact ⟨m + 1, v2, by omega, by go_num, h1, h2, h3, h4⟩
            case measure => simp [intOf]; omega
        · have e1 : acts.take m = acts := List.take_of_length_le (by omega)
          rw [e1] at hL
          have HLL := Lib.hid hL
          have HB := Lib.hid hb
          have cp := hL.cell
          obtain ⟨sa, sc, hs9⟩ := hL.own.shape
          have HS9 := Lib.hid hs9
          clear hM hf hL hb hs9
          go_wp2_with fail
          go_ret2
          exact ⟨_, rfl, HLL.out.own, HB.out⟩
end Go.Proofs.YthoemgiadadfcaaDoor
