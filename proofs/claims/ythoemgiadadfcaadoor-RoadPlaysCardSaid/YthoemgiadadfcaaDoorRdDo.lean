/- The list behind acts: the walk of Do. -/
import Derived.Test.YthoemgiadadfcaaDoorRdDone
set_option linter.unusedVariables false
set_option linter.unusedSimpArgs false
namespace Go.Proofs.YthoemgiadadfcaaDoor
open Go.RowKit Go.Sort Rd
section
variable {P : Program} {ops : Array Oper} {rest : List Oper} {o : Oper} {a : Act} {Q : Exit → Act → World → Prop}
/-- append_k, the box's number as the walk has it. -/
theorem append_kb {α : Type} {W : World} (b : Nat) (hb : b = W.heap.size) (hgd : o.guard = none) (s x : Operand) (t e : TypeId) (k bytes : Nat) (enc : α → List Value) (hk : ∀ x, (enc x).length = k) (z : Value) (hz : z.cells.size = k) (hk0 : 0 < k)
    (ho : o.op = .call { callee := .builtin .append, args := #[s, x], argTypes := #[t, t] })
    (ht : P.underlying t = some (.slice e)) (hinfo : (P.info? e).map (fun i => (i.zero, i.size, i.bytes)) = some (some z, k, bytes)) (hb0 : 0 < bytes)
    (v : Value) (xs : List α) (y : α) (cs : Array Value) (hcs : cs.toList = enc y) (h1 : ∀ u ∈ enc y, u.oneCell' = true) (hs : a.eval s = v) (hx : a.eval x = .slice (some ⟨b, 0, none⟩) 1 1)
    (HO : Rw W e k enc v xs) (hl : (xs.length + 1) * bytes ≤ 140737488355328)
    (h : ∀ g cap w1, Rw w1 e k enc (.slice (some ⟨g, 0, none⟩) (xs ++ [y]).length cap) (xs ++ [y]) → Keep W w1 (foot v) → (g ∈ foot v ∨ W.heap.size ≤ g) → wpList P ops Q rest (a.put o.dst (.slice (some ⟨g, 0, none⟩) (xs ++ [y]).length cap)) w1) :
    wpList P ops Q (o :: rest) a (W.alloc (.cells cs e)) := by
  subst hb
  exact append_k hgd s x t e k bytes enc hk z hz hk0 ho ht hinfo hb0 v xs y cs hcs h1 hs hx HO hl h
end
theorem info9 : (Tryd.prog.info? 9).map (fun i => (i.zero, i.size, i.bytes)) = some (some (.string ⟨#[]⟩), 1, 16) := by kernel_rfl
set_option maxRecDepth 100000 in
set_option maxHeartbeats 1600000 in
theorem do_bad (v u : Value) (l : List ByteArray) (acts : List Ac) (w : World) (h' : Rr w 4 ac u acts) (hn' : acts.length ≤ 1000) (hw : wrs acts ≠ 0) :
    Calls Tryd.prog 11 #[v, u] w fun e w' => e = .returned (.tuple #[.slice none 0 0, .int .i64 (wrs acts)]) ∧ Below w.heap.size w w' := by
  have hq := done_bad v u [] acts w h' hn' hw
  clear hw
  go_enter Tryd.func11, Tryd.ntmps11
  go_wp2_with (go_at_call 19; (with_reducible refine hq.mono ?_); rintro e w1 ⟨rfl, hb1⟩; clear hq)
  go_loopw [8, 19] (fun v i wr => v = .slice none 0 0 ∧ i = .int .i64 0 ∧ Below w.heap.size w wr) (fun _ _ _ => 0)
  case atStart => exact ⟨rfl, rfl, hb1⟩
  case round =>
    obtain ⟨rfl, rfl, hb⟩ := hrel
    go_wp2_with fail
    go_ret2
    exact ⟨rfl, hb⟩
/-- What Do leaves. -/
def Dx (w : World) (l : List ByteArray) (acts : List Ac) (e : Ending) (w' : World) : Prop := ∃ r, e = .returned (.tuple #[r, .int .i64 0]) ∧ Rw w' 9 1 st r ((runL l acts).map (·.1)) ∧ Below w.heap.size w w'
set_option maxRecDepth 100000 in
set_option maxHeartbeats 1600000 in
theorem do_ok (v u : Value) (l : List ByteArray) (acts : List Ac) (w : World) (h : Rr w 1 st v l) (h' : Rr w 4 ac u acts) (hn : l.length ≤ 1000) (hn' : acts.length ≤ 1000) (hs : ∀ s ∈ l, s.size ≤ 140737488355328) (hw : wrs acts = 0) :
    Calls Tryd.prog 11 #[v, u] w (Dx w l acts) := by
  have hq := done_ok v u l acts w h h' hn hn' hs hw
  have hlen : (runL l acts).length ≤ 2000 := by
    have := fold_le acts (initL l)
    rw [initL_length] at this
    unfold runL
    omega
  have HX : Hid (∀ r w', Rw w' 59 2 lc r (runL l acts) → ∃ a cap, r = .slice a (runL l acts).length cap) := fun r w' h => h.shape
  clear h h' hw hs
  go_enter Tryd.func11, Tryd.ntmps11
  obtain ⟨xs, hxs⟩ : ∃ xs, xs = runL l acts := ⟨_, rfl⟩
  have HXS := Lib.hid hxs
  unfold Dn at hq
  rw [← hxs] at hq HX hlen
  clear hxs
  go_wp2_with (go_at_call 19; (with_reducible refine hq.mono ?_); rintro e w1 ⟨r, rfl, hr, hb1⟩; obtain ⟨ra, rcap, rfl⟩ := HX.out r w1 hr; have HR := Lib.hid (hr.read lc_length); clear hq hr HX)
  go_loopw [8, 19] (fun v i wr => ∃ (k : Nat), k ≤ xs.length ∧ i = .int .i64 k ∧ Rw wr 9 1 st v ((xs.take k).map (·.1)) ∧ Below w.heap.size w wr ∧ Below w1.heap.size w1 wr ∧ ∀ j ∈ foot v, w1.heap.size ≤ j) (fun _ i _ => xs.length - (intOf i).toNat)
  case atStart => exact ⟨0, Nat.zero_le _, rfl, Rw.nil .., hb1, Below.refl _ _, by simp [foot_nil]⟩
  case round =>
    obtain ⟨k, hk, rfl, ho, hb, hb2, hf⟩ := hrel
    have HO := Lib.hid ho
    have HB := Lib.hid hb
    have HB2 := Lib.hid hb2
    have HF := Lib.hid hf
    have HS := ho.shape
    obtain ⟨va, vcap, hv⟩ := HS
    have HV := Lib.hid hv
    clear ho hb hb2 hf hv
    by_cases hlt : k < xs.length
    · obtain ⟨g, o, rfl, hg, x, hx, hc⟩ := (HR.out.below HB2.out).at_ k hlt
      have c0 : wr.cell? ⟨g, o + k * 2, none⟩ = some (.string x.1) := hc 0 _ rfl
      have c1 : wr.cell? ⟨g, o + k * 2 + 1, none⟩ = some (.int .i64 x.2) := hc 1 _ rfl
      have HXK := Lib.hid hx
      have hBA : Below wr.heap.size wr (wr.alloc (.cells #[.string x.1, .int .i64 x.2] 59)) := (Below.refl _ _).alloc (Nat.le_refl _) _
      have HO2 := Lib.hid (HO.out.below hBA)
      have HBA := Lib.hid hBA
      clear hx hc hBA
      go_wp2_with (at_builtin; refine append_kb (wr.heap.size + 1) (by simp) rfl _ _ 22 9 1 16 st st_length _ rfl (by omega) rfl Tryd.underlying22 info9 (by omega) u8 ((xs.take k).map (·.1)) x.1 _ rfl (st_one _) rfl rfl HO2.out (by rw [List.length_map, List.length_take]; omega) ?_; intro g2 cap3 w2 ho2 hk2 hat; clear c0 c1)
      go_roundw
      case rel =>
        have e1 : (xs.take k).map (·.1) ++ [x.1] = (xs.take (k + 1)).map (·.1) := by rw [List.take_add_one, HXK.out]; simp
        have e2 : ((xs.take (k + 1)).map (·.1)).length = k + 1 := by rw [List.length_map, List.length_take]; omega
        rw [e1, e2] at ho2
        have hA := HB2.out.trans (HBA.out.mono HB2.out.size)
        have hA2 := HB.out.trans (HBA.out.mono HB.out.size)
        have h1 : Below w1.heap.size w1 w2 := hk2.below hA HF.out
        refine ⟨k + 1, by omega, by go_num, ho2, hk2.below hA2 (fun j hj => Nat.le_trans hb1.size (HF.out j hj)), h1, fun j hj => ?_⟩
        rw [foot_slice, List.mem_singleton] at hj
        subst hj
        rcases hat with h9 | h9
        · exact HF.out _ h9
        · exact Nat.le_trans hA.size h9
      case measure => simp [intOf]; omega
    · have e1 : xs.take k = xs := List.take_of_length_le (by omega)
      have HO3 := HO.out
      rw [e1] at HO3
      have HO4 := Lib.hid HO3
      clear HO3
      go_wp2_with fail
      go_ret2
      exact ⟨_, rfl, by rw [← HXS.out]; exact HO4.out, HB.out⟩
end Go.Proofs.YthoemgiadadfcaaDoor
