/- A region that draws, whose calls lay blocks, with one chain behind it; a whole row loaded in it; belfrylaw02.awake. -/
import Derived.Test.YthmiomncgkmnoaaDoorKeyBand
import Derived.Test.YthmiomncgkmnoaaDoorQuietTail
import Derived.Lib.QuietBelow
set_option linter.unusedVariables false
set_option linter.unusedSimpArgs false
namespace Go.Proofs.YthmiomncgkmnoaaDoor
open Go.RowKit Go.Sort Sip Kd
theorem wp_region_below_tail {P : Program} {id : Nat} {Q : Exit → Act → World → Prop} {a : Act} {w : World} {l : List Oper} (n : Nat) (hm : P.follows .mixedOrders = true) (hB : Region.lexTailB .any l.toArray n = true)
    (h : wpQuiet P l.toArray (fun w' => ∃ p : Regrown, w' = grow (redrawn w p.d) p.os) (fun a' => ∀ w', (∃ p : Regrown, w' = grow (redrawn w p.d) p.os) → wpList P l.toArray Q (l.drop n) a' w') (l.take n) a) : (Code.region id l.toArray true).wp P Q a w := by
  simp only [Region.lexTailB, Bool.and_eq_true, decide_eq_true_eq] at hB
  obtain ⟨⟨⟨⟨hsel, hn⟩, hs⟩, hc⟩, hlex⟩ := hB
  have hn' : n < l.length := by simpa using hn
  have htl : (l.take n).length = n := by simp; omega
  have hdl : (l.drop n).length = l.toArray.size - n := by simp
  have inv0 : HeadInv .any l.toArray n (Array.replicate l.toArray.size false) :=
    ⟨by simp, fun j oj _ hl => (by rw [getD_replicate_false] at hl; cases hl), fun t _ ht => getD_in (by simpa using ht) (getD_replicate_false _ _)⟩
  have H := headAny_lex (md := .any) (g := l.toArray.size - n) hsel hs hc hn (l.take n) 0 _ a (fun j hj => by
    have hj' : j < n := by rw [htl] at hj; exact hj
    simp [hj']) (by simpa using htl) inv0 (by rw [htl]; exact hlex) h
  refine wp_region_any hm ?_
  have := any_of_head (Q' := Q) (g := l.toArray.size - n) (C := fun w' => ∃ p : Regrown, w' = grow (redrawn w p.d) p.os) (fun done a' w' hw' hL => by
    have := wpAny_of_seq (md := .any) (Q' := Q) (l.drop n) n done a' w' (fun j => by simp [List.getElem?_drop]) (by rw [hdl]; exact hL.1) (hL.2 w' hw')
    rwa [hdl] at this) _ _ _ { w with drawn := w.drawn + 1 } ⟨⟨w.drawn + 1, #[]⟩, by rw [grow_empty]; rfl⟩ H
  rw [htl, show n + (l.toArray.size - n) = l.toArray.size by omega] at this
  exact this
theorem quiet_load_row {P : Program} {o : Oper} {a : Act} {w0 : World} {K : Act → Prop} (ty : TypeId) (x : Operand) (ho : o.op = .load ty x)
    (g : Nat) (hx : a.eval x = .pointer (some ⟨g, 0, none⟩)) (t : TypeId) (cs : Array Value) (fr : Nat × Nat) (d : TypeDesc) (hg : w0.heap[g]? = some (.cells cs t fr))
    (hu : P.underlying ty = some d) (hd : (match d with | .struct _ | .array _ _ => true | _ => false) = true) (hi : (P.info? ty).map (·.size) = some cs.size)
    (h : K (a.put o.dst (.agg cs))) : o.quiet P a (fun w' => ∃ p : Regrown, w' = grow (redrawn w0 p.d) p.os) K := by
  refine ⟨.agg cs, fun w hw => ?_, h⟩
  obtain ⟨p, rfl⟩ := hw
  have hg' : (grow (redrawn w0 p.d) p.os).heap[g]? = some (.cells cs t fr) := ((below_regrown w0 p.d p.os).block g (Array.getElem?_eq_some_iff.1 hg).1).trans hg
  unfold Oper.quietAt execOp
  simp only [ho, hx, Instr.loadAt, Instr.sureAddr, Sem.run_bind, Sem.run_pure, Result.andThen_ok, run_loadVar_row _ g t ty cs fr d hg' hu hd hi]
  exact ⟨rfl, rfl⟩
set_option maxRecDepth 100000 in
set_option maxHeartbeats 1600000 in
theorem keyAwake_is (w : World) (hg : Signs w) : Calls Tryd.prog 26 #[] w fun e w' => e = .returned (.bool true) ∧ Below w.heap.size w w' := by
  have hz := zero23
  have hl : (keyAt 0).length = 16 := by decide
  have hb : Bytes (keyAt 0) := by intro c hc; have : ∀ c ∈ keyAt 0, c < 256 := by decide
                                  exact this c hc
  obtain ⟨kl, hkl⟩ : ∃ kl, kl = keyAt 0 := ⟨_, rfl⟩
  rw [← hkl] at hz hl hb
  have c1 : ∀ w, Calls Tryd.prog 33 #[.int .i64 (-1)] w fun e w' => e = .returned (.int .i64 1015) ∧ w' = w := fun w => frame_is (-1) w
  have c2 := fun w hg => band_is kl hl hb (-1) w hg
  have c3 := fun w hg => band_is kl hl hb 1015 w hg
  rw [show fr (-1) = 1015 by decide] at c2
  rw [show fr 1015 = 1015 by decide] at c3
  obtain ⟨B, hB⟩ : ∃ B, B = (ord kl (128 + 1015 / 8) 8).getD (1015 % 8) 0 := ⟨_, rfl⟩
  rw [← hB] at c2 c3
  have c4 : ∀ w, Signs w → Calls Tryd.prog 27 #[.agg (keyV kl), .int .u8 120, .int .i64 3] w fun e w' => ∃ g, e = .returned (.slice (some ⟨g, 0, none⟩) 3 3) ∧ Row w' g .i64 (casts (ord kl 120 3)) ∧ Below w.heap.size w w' ∧ w.heap.size ≤ g := fun w hg => order_is kl hl hb 120 (by omega) 3 (by omega) (by omega) w hg
  have h0 : Hid ((w.alloc (.cells (keyV kl) 23)).heap[w.heap.size]? = some (.cells (keyV kl) 23 (0, 0))) := heap_alloc_new w _
  have hw0 : Hid (Below w.heap.size w (w.alloc (.cells (keyV kl) 23))) := (Below.refl _ _).alloc (Nat.le_refl _) _
  have hG : Hid (Signs (w.alloc (.cells (keyV kl) 23))) := hg.below hw0.out
  have hsz := Lib.hid (size23 kl hl)
  have D := Lib.hid (And.intro c1 (And.intro c2 (And.intro c3 c4)))
  clear hl hb hkl hB hg c1 c2 c3 c4
  go_enter Tryd.func26, Tryd.ntmps26
  go_upto_region 2 with (fail)
  generalize w.alloc (.cells (keyV kl) 23) = W at *
  obtain ⟨b, hb0⟩ : ∃ b, b = w.heap.size := ⟨_, rfl⟩
  rw [← hb0] at h0
  rw [← hb0]
  clear hb0 hz
  have hSg : ∀ d os, Signs (grow (redrawn W d) os) := fun d os => hG.out.below (below_regrown W d os)
  have e1 : Hid (∀ d os, Calls Tryd.prog 33 #[.int .i64 (-1)] (grow (redrawn W d) os) fun e w' => e = .returned (.int .i64 1015) ∧ ∃ p : Regrown, w' = grow (redrawn W p.d) p.os) := fun d os => (D.out.1 _).mono fun e w' ⟨h1, h2⟩ => ⟨h1, ⟨d, os⟩, h2⟩
  have e2 := Lib.hid fun d os => (D.out.2.1 (grow (redrawn W d) os) (hSg d os)).regrown_of
  have e3 := Lib.hid fun d os => (D.out.2.2.1 (grow (redrawn W d) os) (hSg d os)).regrown_of
  have HSG := Lib.hid hSg
  clear hSg
  refine wp_region_below_tail 11 (by kernel_rfl) (by kernel_rfl) ?_
  simp only [List.take_succ_cons, List.take_zero, List.drop_succ_cons, List.drop_zero]
  repeat (first | go_big_quiet_skip | (go_big_quiet_want; refine quiet_load_row 23 (.tmp 1) rfl b rfl 23 (keyV kl) (0, 0) _ h0.out Tryd.underlying23 rfl hsz.out ?_; simp only [Act.put, List.setIfInBounds_toArray, List.set_cons_succ, List.set_cons_zero]; go_big_quiet_on) | go_big_quiet_step (first | (with_reducible exact e1.out _ _) | (with_reducible exact e2.out _ _) | (with_reducible exact e3.out _ _)))
  refine wpQuiet_nil ?_
  intro _ hw'
  obtain ⟨⟨dq, osq⟩, hw''⟩ := hw'
  subst hw''
  have hbq : Hid (Below w.heap.size w (grow (redrawn W dq) osq)) := hw0.out.trans ((below_regrown W dq osq).mono hw0.out.size)
  have hq := D.out.2.2.2 _ (HSG.out dq osq)
  generalize grow (redrawn W dq) osq = W5 at *
  clear D HSG e1 e2 e3
  go_wp2_with (go_at_call 27; (with_reducible refine hq.mono ?_); rintro e w8 ⟨g, rfl, hr8, hb8, hn8⟩; have HB8 := Lib.hid hb8; clear hr8 hb8 hn8 hq)
  go_ret
  exact ⟨rfl, hbq.out.trans (HB8.out.mono hbq.out.size)⟩
end Go.Proofs.YthmiomncgkmnoaaDoor
