/- A list two by two: the walk of slices.Chunk and of its closure. -/
import Derived.RangeFuncNested
import Derived.RangeFuncBound
import Derived.RangeFuncLeaves
import Derived.Shelf.Abstract
import Derived.Shelf.RegionOpen
import Derived.WalkKit
import Derived.TacticsInMore
import Derived.LoopNIn
import Derived.LoopIn
import Derived.Test.YthoemgiadadfcaaRound
import Derived.Test.YthoemgiadadfcaaWsConcat
set_option linter.unusedVariables false
set_option linter.unusedSimpArgs false
namespace Go.Proofs.Ythoemgiadadfcaa
open Go.RowKit Go.Sort Ws
attribute [local go_sem] Oper.semAt_some
/-- The blocks L lie as they lay. -/
def Lies (L : List Nat) (W W' : World) : Prop := ∀ j ∈ L, W'.heap[j]? = W.heap[j]?
theorem Lies.refl (L : List Nat) (W : World) : Lies L W W := fun _ _ => rfl
theorem Lies.trans {L : List Nat} {A B C : World} (h : Lies L A B) (k : Lies L B C) : Lies L A C := fun j hj => (k j hj).trans (h j hj)
theorem Lies.cell {L : List Nat} {A B : World} (h : Lies L A B) {p i : Nat} (hp : p ∈ L) : B.cell? ⟨p, i, none⟩ = A.cell? ⟨p, i, none⟩ := by
  simp only [World.cell?, h p hp]
set_option maxRecDepth 100000 in
set_option maxHeartbeats 2000000 in
theorem chunk1_in (n : Nat) (hn : 1 ≤ n) (l Bs Bn b cap K : Nat) (hK : K ≤ 1000) (hcap : 2 * K ≤ cap) (J Jx : List (Fin K) → World → Prop) (hJd : ∀ pre w m, J pre w → J pre (w.drewN m))
    (hY : ∀ pre x W, J pre W → pre.length < K → YieldAt Fence.wide (n - 1) Try.prog l #[.slice (some ⟨b, 2 * x.val, none⟩) 2 2] W fun e W' =>
      (e = .returned (.bool true) ∧ J (pre ++ [x]) W' ∧ Lies [b, Bs, Bn] W W') ∨ (e = .returned (.bool false) ∧ Jx (pre ++ [x]) W'))
    (W : World) (hBs : W.cell? ⟨Bs, 0, none⟩ = some (.slice (some ⟨b, 0, none⟩) (2 * K) cap)) (hBn : W.cell? ⟨Bn, 0, none⟩ = some (.int .i64 2)) (h0 : J [] W) :
    CallsIn Fence.wide n Try.prog 24 #[.func (.yield l) #[] #[], .pointer (some ⟨Bs, 0, none⟩), .pointer (some ⟨Bn, 0, none⟩)] W fun e W' => (∃ v, e = .returned v) ∧
      ((∃ ys : List (Fin K), ys.map Fin.val = List.range K ∧ J ys W') ∨ (∃ pre, Jx pre W')) := by
  refine callsIn_of_wp Try.func24 rfl trivial ?_ rfl
  simp only [Try.ntmps24, List.size_toArray, List.length_cons, List.length_nil, Nat.reduceAdd, Nat.reduceSub, Array.replicate_succ, Array.replicate_zero, List.push_toArray, List.append_toArray, List.nil_append, List.cons_append]
  gi_wp2
  gi_loopw [4] (fun i wr => ∃ (k : Nat) (pre : List (Fin K)), k ≤ K ∧ i = .int .i64 ((2 * k : Nat) : Int) ∧ pre.map Fin.val = List.range k ∧ J pre wr ∧ Lies [b, Bs, Bn] W wr)
    (fun i _ => 2 * K - (intOf i).toNat)
  case atStart => exact ⟨0, [], Nat.zero_le _, rfl, rfl, h0, Lies.refl _ _⟩
  case round =>
    obtain ⟨k, pre, hk, rfl, hpre, hJs, hnx⟩ := hrel
    have c1 : wr.cell? ⟨Bs, 0, none⟩ = some (.slice (some ⟨b, 0, none⟩) (2 * K) cap) := (hnx.cell (by simp)).trans hBs
    have c2 : wr.cell? ⟨Bn, 0, none⟩ = some (.int .i64 2) := (hnx.cell (by simp)).trans hBn
    have hlen : pre.length = k := by rw [← List.length_map (f := Fin.val), hpre, List.length_range]
    by_cases hlt : k < K
    · have hm : min (2 : Int) (2 * (K : Int) - ((2 * k : Nat) : Int)) = 2 := by omega
      gi_wp2
      refine wpIn_wide.2 ?_
      go_quiet (fail)
      obtain ⟨fn, tmps, assign, body, hy, hR⟩ := hY pre ⟨k, hlt⟩ (wr.drewN nq) (hJd _ _ _ hJs) (by omega)
      dsimp only at hy
      have hnd : Lies [b, Bs, Bn] wr (wr.drewN nq) := fun _ _ => rfl
      have c1d : (wr.drewN nq).cell? ⟨Bs, 0, none⟩ = some (.slice (some ⟨b, 0, none⟩) (2 * K) cap) := c1
      gi_wp2
      refine hR.mono ?_
      rintro e W3 (⟨rfl, hJ3, hk3⟩ | ⟨rfl, hJx3⟩)
      · have c23 : W3.cell? ⟨Bn, 0, none⟩ = some (.int .i64 2) := (hk3.cell (by simp)).trans ((hnd.cell (by simp)).trans c2)
        gi_wp2
        go_roundw
        case rel => exact ⟨k + 1, _, by omega, by go_num, by rw [List.map_append, hpre, List.range_succ]; rfl, hJ3, hnx.trans (hnd.trans hk3)⟩
        case measure => simp [intOf]; omega
      · gi_wp2
        refine bodyPost_ret (results_none rfl _ _ _) rfl ?_
        exact ⟨⟨_, rfl⟩, .inr ⟨_, hJx3⟩⟩
    · obtain rfl : k = K := by omega
      gi_wp2
      go_end0
      exact ⟨⟨_, rfl⟩, .inl ⟨_, hpre, hJs⟩⟩
set_option maxRecDepth 100000 in
set_option maxHeartbeats 2000000 in
theorem chunk0_in (n : Nat) (l Bs Bn : Nat) (a : Option Addr) (cap : Nat) (J : List (Fin 0) → World → Prop) (W : World) (hBs : W.cell? ⟨Bs, 0, none⟩ = some (.slice a 0 cap)) (h0 : J [] W) :
    CallsIn Fence.wide n Try.prog 24 #[.func (.yield l) #[] #[], .pointer (some ⟨Bs, 0, none⟩), .pointer (some ⟨Bn, 0, none⟩)] W fun e W' => (∃ v, e = .returned v) ∧ J [] W' := by
  refine callsIn_of_wp Try.func24 rfl trivial ?_ rfl
  simp only [Try.ntmps24, List.size_toArray, List.length_cons, List.length_nil, Nat.reduceAdd, Nat.reduceSub, Array.replicate_succ, Array.replicate_zero, List.push_toArray, List.append_toArray, List.nil_append, List.cons_append]
  gi_wp2
  gi_loopw [4] (fun i wr => i = .int .i64 0 ∧ J [] wr ∧ wr.cell? ⟨Bs, 0, none⟩ = some (.slice a 0 cap)) (fun _ _ => 0)
  case atStart => exact ⟨rfl, h0, hBs⟩
  case round =>
    obtain ⟨rfl, hJs, hc⟩ := hrel
    gi_wp2
    go_end0
    exact ⟨⟨_, rfl⟩, hJs⟩
theorem chunk_stops (n : Nat) (hn : 1 ≤ n) (Bs Bn b cap K : Nat) (a : Option Addr) (hK : K ≤ 1000) (ha : 0 < K → a = some ⟨b, 0, none⟩ ∧ 2 * K ≤ cap) (w : World) (hBs : Bs < w.heap.size) (hBn : Bn < w.heap.size)
    (hcs : w.cell? ⟨Bs, 0, none⟩ = some (.slice a (2 * K) cap)) (hcn : w.cell? ⟨Bn, 0, none⟩ = some (.int .i64 2)) :
    SeqStopsK Fence.wide n Try.prog 24 #[.pointer (some ⟨Bs, 0, none⟩), .pointer (some ⟨Bn, 0, none⟩)] (fun x : Fin K => #[Value.slice (some ⟨b, 2 * x.val, none⟩) 2 2]) (Lies [b, Bs, Bn]) (fun ys => ys.map Fin.val = List.range K) (fun _ => True) K w := fun l J Jx W hW hJ _ hY h0 => by
  have h1 := (hW.cell (p := ⟨Bs, 0, none⟩) hBs).trans hcs
  have h2 := (hW.cell (p := ⟨Bn, 0, none⟩) hBn).trans hcn
  have hJd : ∀ pre w m, J pre w → J pre (w.drewN m) := fun pre w m h => hJ pre w _ none h ⟨rfl, rfl, rfl, Nat.le_refl _, fun _ _ _ => rfl⟩ (fun r e => by cases e)
  by_cases hk : K = 0
  · subst hk
    exact (chunk0_in n l Bs Bn a cap J W h1 h0).mono fun e W' h => ⟨h.1, .inl ⟨[], rfl, h.2⟩⟩
  · obtain ⟨rfl, hc⟩ := ha (by omega)
    exact (chunk1_in n hn l Bs Bn b cap K hK hc J Jx hJd hY W h1 h2 h0).mono fun e W' ⟨h, h3⟩ => ⟨h, h3.imp id fun ⟨pre, h4⟩ => ⟨pre, trivial, h4⟩⟩
set_option maxRecDepth 100000 in
set_option maxHeartbeats 2000000 in
theorem chunk_is (a : Option Addr) (len cap : Nat) (w : World) : Calls Try.prog 11 #[.slice a len cap, .int .i64 2] w fun e w' => e = .returned (.func (.func 24) #[] #[.pointer (some ⟨w.heap.size, 0, none⟩), .pointer (some ⟨w.heap.size + 1, 0, none⟩)]) ∧ w' = (w.alloc (.cells #[.slice a len cap] 22)).alloc (.cells #[.int .i64 2] 3) := by
  have hmf : ∀ (fn : Fn) (first cap : Array Value) (w : World), (Instr.makeFunc fn first cap).run Try.prog w = .ok (.func fn first cap) w := fun _ _ _ _ => rfl
  go_enter Try.func11, Try.ntmps11
  go_wp2
  go_ret
  exact ⟨by simp, rfl⟩
end Go.Proofs.Ythoemgiadadfcaa
