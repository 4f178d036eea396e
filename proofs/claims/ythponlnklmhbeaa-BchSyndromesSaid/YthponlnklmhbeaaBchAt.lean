/- The document's word at an element, and its walk; a guarded load of a whole row. -/
import Derived.Test.YthponlnklmhbeaaBchQuiet
import Derived.Test.YthponlnklmhbeaaFieldRef
set_option linter.unusedVariables false
set_option linter.unusedSimpArgs false
namespace Go.Proofs.Ythponlnklmhbeaa
open Go.RowKit Go.Sort F7
def wl (f : Nat → Bool) : List Nat := (List.range 127).map fun i => if f i = true then 1 else 0
theorem wl_length (f : Nat → Bool) : (wl f).length = 127 := by simp [wl]
theorem wl_get (f : Nat → Bool) (i : Nat) (hi : i < 127) : (wl f).getD i 0 = if f i = true then 1 else 0 := by
  simp [wl, List.getD_eq_getElem?_getD, List.getElem?_range hi]
theorem wl_low (f : Nat → Bool) : Low (wl f) := by
  intro c hc
  obtain ⟨i, _, rfl⟩ := List.mem_map.1 hc
  split <;> decide
theorem drop_low {l : List Nat} (h : Low l) (k : Nat) : Low (l.drop k) := fun c hc => h c (List.mem_of_mem_drop hc)
theorem ev_low (p : List Nat) (h : Low p) (x : Nat) : ev p x < 128 := by
  cases p with
  | nil => simp [ev]
  | cons c p => rw [ev]; exact xor_lt _ _ (mul_lt _ _) (h c (by simp))
theorem wl_drop (f : Nat → Bool) (x k : Nat) (hk : k < 127) : ev ((wl f).drop k) x = mul (ev ((wl f).drop (k + 1)) x) x ^^^ (if f k = true then 1 else 0) := by
  rw [List.drop_eq_getElem_cons (show k < (wl f).length by rw [wl_length]; exact hk), ev, ← wl_get f k hk, List.getD_eq_getElem?_getD, List.getElem?_eq_getElem (show k < (wl f).length by rw [wl_length]; exact hk)]
  rfl
theorem wl_end (f : Nat → Bool) (x : Nat) : ev ((wl f).drop 127) x = 0 := by rw [List.drop_of_length_le (by rw [wl_length]; omega)]; rfl
theorem wl_syn (f : Nat → Bool) (j : Nat) : ev ((wl f).drop 0) (ex j) = syn f j := by
  rw [List.drop_zero, ev_xs j _ (wl_low f), wl_length]
  unfold syn
  refine xs_congr _ fun i hi => ?_
  rw [wl_get f i hi]
  cases f i
  · simp only [bt]; rw [mul_comm]; simp [mul_zero]
  · simp only [bt, if_true]; rw [mul_comm, mul_one _ (ex_lt _)]
set_option maxRecDepth 100000 in
set_option maxHeartbeats 1600000 in
theorem refAt_is (f : Nat → Bool) (j : Nat) (w : World) : Calls Try.prog 37 #[.agg (wordV f), .int .i64 (ex j : Nat)] w fun e w' => e = .returned (.int .i64 (syn f j : Nat)) ∧ Below w.heap.size w w' := by
  obtain ⟨b, hb⟩ : ∃ b, b = w.heap.size := ⟨_, rfl⟩
  obtain ⟨W, hW⟩ : ∃ W, W = w.alloc (.cells (wordV f) 39) := ⟨_, rfl⟩
  have h1 : Wd 39 W b f := by rw [hW, hb]; exact Wd.boxed w 39 f
  have HB : Hid (Below w.heap.size w W) := by show Below w.heap.size w W; rw [hW]; exact (Below.refl _ _).alloc (Nat.le_refl _) _
  have H1 := Lib.hid h1
  have HW := Lib.hid hW
  have hb' := hb.symm
  have hend := wl_syn f j
  obtain ⟨x, hx⟩ : ∃ x, x = ex j := ⟨_, rfl⟩
  have hxl : x < 128 := by rw [hx]; exact ex_lt j
  rw [← hx] at hend
  rw [← hx]
  have HEND := Lib.hid hend
  have hmul : Hid (∀ p w, p < 128 → Calls Try.prog 23 #[.int .i64 (p : Nat), .int .i64 (x : Nat)] w fun e w' => e = .returned (.int .i64 (mul p x : Nat)) ∧ w' = w) := fun p w hp => by
    have := refMul_is p x w
    rw [r7_natR hp, r7_natR hxl] at this
    exact this
  have HXL := Lib.hid hxl
  clear h1 hW hb hend hx hxl
  go_enter Try.func37, Try.ntmps37
  go_wp2
  rw [← HW.out]
  clear HW hb'
  go_loopw [5, 6] (fun o i wr => wr = W ∧ ((∃ m : Nat, m < 127 ∧ i = .int .i64 m ∧ o = .int .i64 (ev ((wl f).drop (m + 1)) x : Nat)) ∨ (i = .int .i64 (-1) ∧ o = .int .i64 (ev ((wl f).drop 0) x : Nat)))) (fun _ i _ => (intOf i + 1).toNat)
  case atStart => exact ⟨rfl, .inl ⟨126, by decide, rfl, by rw [wl_end]; rfl⟩⟩
  case round =>
    obtain ⟨rfl, h⟩ := hrel
    rcases h with ⟨m, hm, rfl, rfl⟩ | ⟨rfl, rfl⟩
    · have c1 := H1.out.cell m hm
      have hs := wl_drop f x m hm
      have hl := ev_low _ (drop_low (wl_low f) (m + 1)) x
      obtain ⟨o, ho⟩ : ∃ o, o = ev ((wl f).drop (m + 1)) x := ⟨_, rfl⟩
      rw [← ho] at hs hl
      rw [← ho]
      have hc := hmul.out o wr hl
      obtain ⟨q, hq⟩ : ∃ q, q = mul o x := ⟨_, rfl⟩
      have hql : q < 128 := by rw [hq]; exact mul_lt _ _
      rw [← hq] at hc hs
      have hxo := xor_i64 q 1 (by omega) (by omega)
      have hxo1 : bits BinOp.xor IntKind.i64 (q : Int) 1 = ((q ^^^ 1 : Nat) : Int) := hxo
      obtain ⟨r, hr⟩ : ∃ r, r = q ^^^ 1 := ⟨_, rfl⟩
      rw [← hr] at hxo1
      clear hxo ho
      have HS := Lib.hid hs
      have HQ := Lib.hid hq
      have HR := Lib.hid hr
      clear hs hq hr
      cases hf : f m
      all_goals
        rw [hf] at c1
        have HF := Lib.hid hf
        clear hf
        go_wp2_with (go_at_call 23; (with_reducible refine hc.mono ?_); rintro e w3 ⟨rfl, rfl⟩)
        go_roundw
        case rel =>
          refine ⟨by first | trivial | rfl, ?_⟩
          have hs := HS.out
          rw [HF.out] at hs
          by_cases h0 : m = 0
          · subst h0
            refine .inr ⟨by first | trivial | rfl, ?_⟩
            rw [hs]
            first | (rw [HR.out]; rfl) | simp
          · obtain ⟨m', rfl⟩ : ∃ m', m = m' + 1 := ⟨m - 1, by omega⟩
            refine .inl ⟨m', by omega, by go_num, ?_⟩
            rw [hs]
            first | (rw [HR.out]; rfl) | simp
        case measure => first | (simp [intOf]; done) | (simp [intOf]; omega)
    · rw [HEND.out]
      go_wp2
      go_ret
      exact ⟨rfl, HB.out⟩
theorem wpList_load_row_want {P : Program} {ops : Array Oper} {rest : List Oper} {o : Oper} {a : Act} {w : World} {Q : Exit → Act → World → Prop} (hw : Region.wanted o (yielded ops a.tmps) = true) (ty : TypeId) (x : Operand) (ho : o.op = .load ty x)
    (g : Nat) (hx : a.eval x = .pointer (some ⟨g, 0, none⟩)) (t : TypeId) (cs : Array Value) (fr : Nat × Nat) (d : TypeDesc) (hg : w.heap[g]? = some (.cells cs t fr))
    (hu : P.underlying ty = some d) (hd : (match d with | .struct _ | .array _ _ => true | _ => false) = true) (hi : (P.info? ty).map (·.size) = some cs.size)
    (h : wpList P ops Q rest (a.put o.dst (.agg cs)) w) : wpList P ops Q (o :: rest) a w :=
  BigFrame.wpList_want hw fun K hK => wp_load_row ty x ho g hx t cs fr d hg hu hd hi (hK _ _ h)
end Go.Proofs.Ythponlnklmhbeaa
