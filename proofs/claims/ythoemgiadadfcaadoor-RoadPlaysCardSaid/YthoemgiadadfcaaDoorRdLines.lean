/- strings.Lines: the walk of its closure. -/
import Derived.RangeFuncNested
import Derived.RangeFuncBound
import Derived.RangeFuncLeaves
import Derived.Shelf.Abstract
import Derived.Shelf.RegionOpen
import Derived.WalkKit
import Derived.TacticsInMore
import Derived.LoopNIn
import Derived.LoopIn
import Derived.Test.YthoemgiadadfcaaDoorRound
import Derived.Test.YthoemgiadadfcaaDoorRdRange
import Derived.Test.YthoemgiadadfcaaDoorRdLine
set_option linter.unusedVariables false
set_option linter.unusedSimpArgs false
namespace Go.Proofs.YthoemgiadadfcaaDoor
open Go.RowKit Go.Sort Rd
attribute [local go_sem] Oper.semAt_some
namespace Rd
/-- The lines of a text, each with its end. -/
def lns : List UInt8 → List (List UInt8)
  | [] => []
  | b :: l => if b = 10 then [10] :: lns l else match lns l with
    | h :: t => (b :: h) :: t
    | [] => [[b]]
theorem lns_spec : ∀ l : List UInt8, l ≠ [] → (Lib.indexByte l 10 = -1 ∧ lns l = [l]) ∨ ∃ i : Nat, Lib.indexByte l 10 = i ∧ i < l.length ∧ lns l = l.take (i + 1) :: lns (l.drop (i + 1))
  | [], h => absurd rfl h
  | b :: l, _ => by
    by_cases hb : b = 10
    · subst hb
      exact .inr ⟨0, by simp [Lib.indexByte], by simp, by simp [lns]⟩
    · have hb' : ¬ (b == 10) = true := by simpa using hb
      have hs : lns (b :: l) = (match lns l with | h :: t => (b :: h) :: t | [] => [[b]]) := by rw [lns, if_neg hb]
      by_cases hl : l = []
      · subst hl
        left
        exact ⟨by unfold Lib.indexByte; rw [if_neg hb']; rfl, by rw [hs]; rfl⟩
      · rcases lns_spec l hl with ⟨h1, h2⟩ | ⟨i, h1, h2, h3⟩
        · left
          refine ⟨by unfold Lib.indexByte; rw [if_neg hb', h1]; rfl, ?_⟩
          rw [hs, h2]
        · right
          refine ⟨i + 1, ?_, by simpa using h2, ?_⟩
          · unfold Lib.indexByte
            rw [if_neg hb', h1, if_neg (by simp)]; omega
          · rw [hs, h3]
            simp
end Rd
/-- What the iterator has still to give. -/
def leftOf (W : World) (B : Nat) : Nat := match W.cell? ⟨B, 0, none⟩ with
  | some (.string s) => s.size
  | _ => 0
theorem leftOf_eq {W : World} {B : Nat} {s : ByteArray} (h : W.heap[B]? = some (.cells #[.string s] 9 (0, 0))) : leftOf W B = s.size := by
  unfold leftOf
  rw [cell_of_row _ _ 0 _ 9 (0, 0) h]; rfl
theorem ext_take (r : List UInt8) (i : Nat) : (str r).extract 0 i = str (r.take i) := by
  apply ByteArray.ext
  simp [str, ByteArray.data_extract]
theorem ext_drop (r : List UInt8) (i : Nat) : (str r).extract i (str r).size = str (r.drop i) := by
  apply ByteArray.ext
  rw [str_size]
  simp [str, ByteArray.data_extract]
  rw [List.take_of_length_le (by simp)]
set_option maxRecDepth 100000 in
set_option maxHeartbeats 2000000 in
theorem lines1_in (n : Nat) (hn : 1 ≤ n) (l Bs : Nat) (t : List UInt8) (ht : t.length ≤ 10000) (J Jx : List ByteArray → World → Prop) (hJs : ∀ s A v, J s A → J s (A.setCell ⟨Bs, 0, none⟩ v)) (hJd : ∀ s A m, J s A → J s (A.drewN m))
    (hY : ∀ pre x W1, J pre W1 → pre ++ [x] <+: (lns t).map str → YieldAt Fence.wide (n - 1) Tryd.prog l #[.string x] W1 fun e W' => (e = .returned (.bool true) ∧ J (pre ++ [x]) W' ∧ W'.heap[Bs]? = W1.heap[Bs]?) ∨ (e = .returned (.bool false) ∧ Jx (pre ++ [x]) W'))
    (W : World) (hB : W.heap[Bs]? = some (.cells #[.string (str t)] 9 (0, 0))) (h0 : J [] W) :
    CallsIn Fence.wide n Tryd.prog 35 #[.func (.yield l) #[] #[], .pointer (some ⟨Bs, 0, none⟩)] W fun e W' => (∃ v, e = .returned v) ∧ (J ((lns t).map str) W' ∨ ∃ pre, pre <+: (lns t).map str ∧ Jx pre W') := by
  obtain ⟨L, hL⟩ : ∃ L, L = (lns t).map str := ⟨_, rfl⟩
  rw [← hL] at hY ⊢
  have HL := Lib.hid hL
  have HB := Lib.hid hB
  clear hL hB
  refine callsIn_of_wp Tryd.func35 rfl trivial ?_ rfl
  simp only [Tryd.ntmps35, List.size_toArray, List.length_cons, List.length_nil, Nat.reduceAdd, Nat.reduceSub, Array.replicate_succ, Array.replicate_zero, List.push_toArray, List.append_toArray, List.nil_append, List.cons_append]
  gi_wp2
  gi_loopw [3] (fun _ wr => ∃ (pre : List ByteArray) (r : List UInt8), r.length ≤ 10000 ∧ L = pre ++ (lns r).map str ∧ J pre wr ∧ wr.heap[Bs]? = some (.cells #[.string (str r)] 9 (0, 0))) (fun _ wr => leftOf wr Bs)
  case atStart => exact ⟨[], t, ht, HL.out, h0, HB.out⟩
  case round =>
    obtain ⟨pre, r, hr, hLr, hJs0, hBr⟩ := hrel
    have c0 : wr.cell? ⟨Bs, 0, none⟩ = some (.string (str r)) := cell_of_row _ _ 0 _ 9 (0, 0) hBr
    have f0 : wr.frozen? ⟨Bs, 0, none⟩ = false := by simp [World.frozen?, hBr]
    have HLR := Lib.hid hLr
    have HJ := Lib.hid hJs0
    have HBR := Lib.hid hBr
    clear hLr hJs0 hBr
    by_cases hr0 : r = []
    · subst hr0
      have hz : (str []).size = 0 := rfl
      gi_wp2
      go_end0
      refine ⟨⟨_, rfl⟩, .inl ?_⟩
      rw [HLR.out]
      simpa [lns] using HJ.out
    · have hsz : (str r).size = r.length := str_size r
      have hlen : 0 < (str r).size := by rw [hsz]; exact List.length_pos_iff.2 hr0
      have hle : (str r).size ≤ 10000 := by omega
      have hi : (0 : Int) < ((str r).size : Int) := by omega
      rcases lns_spec r hr0 with ⟨h1, h2⟩ | ⟨i, h1, h2, h3⟩
      · have hqi : Hid (∀ W, Calls Tryd.prog 36 #[.string (str r), .int .u8 10] W fun e w' => e = .returned (.int .i64 (-1)) ∧ w' = W) := fun W => (Tryd.strings_IndexByte (str r) 10 W).mono fun e w' h => ⟨h.1.trans (by rw [show (str r).data.toList = r from rfl, show (10 : Int).toNat.toUInt8 = 10 from rfl, h1]), h.2⟩
        have HY : Hid (∀ W1, J pre W1 → YieldAt Fence.wide (n - 1) Tryd.prog l #[.string (str r)] W1 fun e W' => (e = .returned (.bool true) ∧ J (pre ++ [str r]) W' ∧ W'.heap[Bs]? = W1.heap[Bs]?) ∨ (e = .returned (.bool false) ∧ Jx (pre ++ [str r]) W')) := fun W1 h => hY pre (str r) W1 h (by rw [HLR.out, h2]; exact List.prefix_refl _)
        have HE : Hid (L = pre ++ [str r]) := by show _ = _; rw [HLR.out, h2]; rfl
        clear h1 h2 hsz hY
        generalize str r = R at *
        have hrow := heap_setCell_same wr Bs 0 #[.string R] 9 (.string ⟨#[]⟩) HBR.out
        have hJ1 := hJs _ _ (.string ⟨#[]⟩) HJ.out
        obtain ⟨fn, tmps, assign, body, hy, hR⟩ := HY.out _ hJ1
        have HROW := Lib.hid hrow
        clear hrow hJ1
        gi_wp2_with (refine ⟨trivial, ?_⟩; gi_at_call 36; refine (callsIn_wide.2 (hqi.out _)).mono ?_; rintro e w9 ⟨rfl, h9⟩; subst h9)
        refine hR.mono ?_
        rintro e W3 (⟨rfl, hJ3, hk3⟩ | ⟨rfl, hJx3⟩)
        · have HJ3 := Lib.hid hJ3
          have HB3 := Lib.hid (hk3.trans HROW.out)
          have HM := Lib.hid hlen
          clear hJ3 hk3 hlen
          gi_wp2
          go_roundw
          case rel => exact ⟨pre ++ [R], [], by simp, by rw [HE.out]; simp [lns], HJ3.out, HB3.out⟩
          case measure =>
            rw [leftOf_eq (s := ⟨#[]⟩) HB3.out, leftOf_eq HBR.out]
            exact HM.out
        · gi_wp2
          refine bodyPost_ret (results_none rfl _ _ _) rfl ?_
          exact ⟨⟨_, rfl⟩, .inr ⟨_, by rw [HE.out]; exact List.prefix_refl _, hJx3⟩⟩
      · have hqi : Hid (∀ W, Calls Tryd.prog 36 #[.string (str r), .int .u8 10] W fun e w' => e = .returned (.int .i64 i) ∧ w' = W) := fun W => (Tryd.strings_IndexByte (str r) 10 W).mono fun e w' h => ⟨h.1.trans (by rw [show (str r).data.toList = r from rfl, show (10 : Int).toNat.toUInt8 = 10 from rfl, h1]), h.2⟩
        have HE : Hid (L = (pre ++ [(str r).extract 0 (i + 1)]) ++ (lns (r.drop (i + 1))).map str) := by show _ = _; rw [HLR.out, h3, ext_take]; simp
        have HY : Hid (∀ W1, J pre W1 → YieldAt Fence.wide (n - 1) Tryd.prog l #[.string ((str r).extract 0 (i + 1))] W1 fun e W' => (e = .returned (.bool true) ∧ J (pre ++ [(str r).extract 0 (i + 1)]) W' ∧ W'.heap[Bs]? = W1.heap[Bs]?) ∨ (e = .returned (.bool false) ∧ Jx (pre ++ [(str r).extract 0 (i + 1)]) W')) := fun W1 h => hY pre _ W1 h (by rw [HE.out]; exact List.prefix_append _ _)
        have HD : Hid ((str r).extract (i + 1) (str r).size = str (r.drop (i + 1))) := ext_drop r (i + 1)
        have his : i < (str r).size := by omega
        have hdl : Hid ((str (r.drop (i + 1))).size < (str r).size ∧ (r.drop (i + 1)).length ≤ 10000) := by
          constructor
          · rw [str_size, List.length_drop, hsz]; omega
          · rw [List.length_drop]; omega
        have HSZ := Lib.hid hsz
        clear h1 h2 h3 hsz hY hr hr0
        generalize r.drop (i + 1) = r2 at *
        generalize str r = R at *
        gi_wp2_with (refine ⟨trivial, ?_⟩; gi_at_call 36; refine (callsIn_wide.2 (hqi.out _)).mono ?_; rintro e w9 ⟨rfl, h9⟩; subst h9)
        refine wpIn_wide.2 ?_
        refine wp_region_quiet_tail 9 (by kernel_rfl) (by kernel_rfl) ?_
        simp only [List.take_succ_cons, List.take_zero, List.drop_succ_cons, List.drop_zero]
        repeat (go_big_quiet_step (fail))
        refine wpQuiet_nil ?_
        intro W8 hw
        obtain ⟨nq, rfl⟩ := hw
        have f1 : (w9.drewN nq).frozen? ⟨Bs, 0, none⟩ = false := f0
        go_wp2_with fail
        have hrow := heap_setCell_same (w9.drewN nq) Bs 0 #[.string R] 9 (.string (R.extract (i + 1) R.size)) HBR.out
        have hJ1 := hJs _ _ (.string (R.extract (i + 1) R.size)) (hJd _ _ nq HJ.out)
        obtain ⟨fn, tmps, assign, body, hy, hR⟩ := HY.out _ hJ1
        have HROW := Lib.hid hrow
        clear hrow hJ1
        gi_wp2
        refine hR.mono ?_
        rintro e W3 (⟨rfl, hJ3, hk3⟩ | ⟨rfl, hJx3⟩)
        · have HJ3 := Lib.hid hJ3
          have HB3 := Lib.hid (hk3.trans HROW.out)
          clear hJ3 hk3 hlen
          gi_wp2
          go_roundw
          case rel => exact ⟨pre ++ [R.extract 0 (i + 1)], r2, hdl.out.2, HE.out, HJ3.out, by rw [← HD.out]; exact HB3.out⟩
          case measure =>
            rw [leftOf_eq (s := R.extract (i + 1) R.size) HB3.out, leftOf_eq HBR.out, HD.out]
            exact hdl.out.1
        · gi_wp2
          refine bodyPost_ret (results_none rfl _ _ _) rfl ?_
          exact ⟨⟨_, rfl⟩, .inr ⟨_, by rw [HE.out]; exact List.prefix_append _ _, hJx3⟩⟩
theorem lines_gives (n : Nat) (hn : 1 ≤ n) (Bs : Nat) (t : List UInt8) (ht : t.length ≤ 10000) (w : World) (hB : w.heap[Bs]? = some (.cells #[.string (str t)] 9 (0, 0))) :
    Gives n Tryd.prog 35 #[.pointer (some ⟨Bs, 0, none⟩)] Value.string Bs ((lns t).map str) w := fun l J Jx W hW hJs hJd hY h0 =>
  lines1_in n hn l Bs t ht J Jx hJs hJd hY W ((hW.block Bs (Array.getElem?_eq_some_iff.1 hB).1).trans hB) h0
set_option maxRecDepth 100000 in
theorem lines_is (s : ByteArray) (w : World) : Calls Tryd.prog 26 #[.string s] w fun e w' => e = .returned (.func (.func 35) #[] #[.pointer (some ⟨w.heap.size, 0, none⟩)]) ∧ w' = w.alloc (.cells #[.string s] 9) := by
  have hmf : ∀ (fn : Fn) (first cap : Array Value) (w : World), (Instr.makeFunc fn first cap).run Tryd.prog w = .ok (.func fn first cap) w := fun _ _ _ _ => rfl
  go_enter Tryd.func26, Tryd.ntmps26
  go_wp2
  go_ret
  exact ⟨by simp, rfl⟩
end Go.Proofs.YthoemgiadadfcaaDoor
