/- The walks of bch.Syndromes, Is. -/
import Derived.Test.YthponlnklmhbeaaBchSyn
import Derived.Deep.Cut
set_option linter.unusedVariables false
set_option linter.unusedSimpArgs false
namespace Go.Proofs.Ythponlnklmhbeaa
open Go.RowKit Go.Sort F7
/-- The sums behind i whole rounds, and k of the next one. -/
def part (f : Nat → Bool) (i k : Nat) : List Nat := (List.range 20).map fun j => xs (fun m => bt (f m) (ex (m * (j + 1)))) (if j < k then i + 1 else i)
theorem part_length (f : Nat → Bool) (i k : Nat) : (part f i k).length = 20 := by simp [part]
theorem part_get (f : Nat → Bool) (i k j : Nat) (hj : j < 20) : (part f i k).getD j 0 = xs (fun m => bt (f m) (ex (m * (j + 1)))) (if j < k then i + 1 else i) := by
  simp [part, List.getD_eq_getElem?_getD, List.getElem?_range hj]
theorem part_next (f : Nat → Bool) (i : Nat) : part f i 20 = part f (i + 1) 0 := by
  unfold part
  apply List.map_congr_left
  intro j hj
  rw [if_pos (List.mem_range.1 hj), if_neg (by omega)]
theorem part_off (f : Nat → Bool) (i k : Nat) (h : f i = false) : part f i (k + 1) = part f i k := by
  unfold part
  apply List.map_congr_left
  intro j hj
  by_cases e : j = k
  · subst e
    rw [if_pos (by omega), if_neg (by omega), xs_succ, h]
    simp [bt]
  · by_cases h1 : j < k
    · rw [if_pos h1, if_pos (by omega)]
    · rw [if_neg h1, if_neg (by omega)]
theorem part_on (f : Nat → Bool) (i k : Nat) (h : f i = true) (hk : k < 20) : part f i (k + 1) = (part f i k).set k ((part f i k).getD k 0 ^^^ ex (i * (k + 1))) := by
  apply List.ext_getElem
  · simp [part]
  · intro j h1 h2
    have hj : j < 20 := by simpa [part] using h1
    rw [List.getElem_set]
    by_cases e : k = j
    · subst e
      rw [if_pos rfl, part_get f i k k hk, if_neg (by omega)]
      simp only [part, List.getElem_map, List.getElem_range]
      rw [if_pos (by omega), xs_succ, h]
      rfl
    · rw [if_neg e]
      simp only [part, List.getElem_map, List.getElem_range]
      by_cases h3 : j < k
      · rw [if_pos h3, if_pos (by omega)]
      · rw [if_neg h3, if_neg (by omega)]
theorem part_lt (f : Nat → Bool) (i k j : Nat) : (part f i k).getD j 0 < 128 := by
  by_cases hj : j < 20
  · rw [part_get f i k j hj]; exact xs_lt _ _ fun _ _ => bt_lt _ _ (ex_lt _)
  · rw [List.getD_eq_getElem?_getD, List.getElem?_eq_none (by rw [part_length]; omega)]; decide
def casts (l : List Nat) : List Int := l.map Nat.cast
theorem casts_length (l : List Nat) : (casts l).length = l.length := List.length_map _
theorem casts_get (l : List Nat) (i : Nat) : (casts l).getD i 0 = ((l.getD i 0 : Nat) : Int) := by
  simp only [casts, List.getD_eq_getElem?_getD, List.getElem?_map]
  cases l[i]? <;> rfl
theorem casts_set (l : List Nat) (i x : Nat) : (casts l).set i (x : Int) = casts (l.set i x) := by unfold casts; rw [List.map_set]
/-- What the round of Syndromes keeps. -/
structure Sy (w0 w : World) (b g : Nat) (l : List Nat) : Prop where
  fd : Fd w b
  row : Row w g .i64 (casts l)
  below : Below w0.heap.size w0 w
  new : w0.heap.size ≤ g
  ne : b ≠ g
theorem Fd.block {w w' : World} {b : Nat} (h : Fd w b) (hb : w'.heap[b]? = w.heap[b]?) : Fd w' b :=
  ⟨fun j hj => (World.cell?_of_block hb).trans (h.exp j hj), fun x hx => (World.cell?_of_block hb).trans (h.log x hx)⟩
theorem Fd.lt {w : World} {b : Nat} (h : Fd w b) : b < w.heap.size := World.block_lt_of_cell? w _ (h.exp 0 (by decide))
theorem Sy.drewN {w0 w : World} {b g : Nat} {l : List Nat} (h : Sy w0 w b g l) (k : Nat) : Sy w0 (w.drewN k) b g l :=
  ⟨h.fd.drewN k, h.row.below (below_drewN w k), h.below.trans ((below_drewN w k).mono h.below.size), h.new, h.ne⟩
theorem Sy.set {w0 w : World} {b g : Nat} {l : List Nat} (h : Sy w0 w b g l) (i x : Nat) (hi : i < l.length) : Sy w0 (w.setCell ⟨g, i, none⟩ (.int .i64 x)) b g (l.set i x) := by
  refine ⟨h.fd.block (Below.heap_setCell _ _ _ _ h.ne), ?_, below_gb h.below (gb_setCell _ ⟨g, i, none⟩ _) h.below.size h.new, h.new, h.ne⟩
  have := h.row.set i (x : Int) (by rw [casts_length]; exact hi)
  rw [casts_set] at this
  exact this
theorem quietE {f : FuncId} {args : Array Value} {w : World} {n : Nat} {v : Value} (h : Calls Try.prog f args (w.drewN n) fun e w' => e = .returned v ∧ ∃ k, w' = (w.drewN n).drewN k) :
    Calls Try.prog f args (w.drewN n) fun e w'' => e = .returned v ∧ ∃ m, w'' = w.drewN m :=
  h.mono fun _ _ ⟨he, k, hk⟩ => ⟨he, n + k, by rw [hk, drew2]⟩
set_option maxRecDepth 100000 in
set_option maxHeartbeats 1600000 in
theorem syndromes_is (f : Nat → Bool) (w : World) : Calls Try.prog 36 #[.agg (wordV f)] w fun e w' => ∃ g, e = .returned (.slice (some ⟨g, 0, none⟩) 20 20) ∧ Row w' g .i64 (casts (part f 127 0)) ∧ Below w.heap.size w w' ∧ w.heap.size ≤ g := by
  have hnew := fun w => new_is w
  have hmk : ∀ w : World, (Instr.makeSlice 29 (.int .i64 20) (.int .i64 20)).run Try.prog w = .ok (.slice (some ⟨w.heap.size, 0, none⟩) 20 20) (w.alloc (.cells #[.int .i64 0, .int .i64 0, .int .i64 0, .int .i64 0, .int .i64 0, .int .i64 0, .int .i64 0, .int .i64 0, .int .i64 0, .int .i64 0, .int .i64 0, .int .i64 0, .int .i64 0, .int .i64 0, .int .i64 0, .int .i64 0, .int .i64 0, .int .i64 0, .int .i64 0, .int .i64 0] 3)) := fun _ => by kernel_rfl
  have HWR : Hid (∀ w (k : Nat), k < 127 → (Instr.index 41 (.agg (wordV f)) (.int .i64 k)).run Try.prog w = .ok (.bool (f k)) w) := fun w k hk => word_run w f k hk
  obtain ⟨b0, hb0⟩ : ∃ b, b = w.heap.size := ⟨_, rfl⟩
  obtain ⟨W, hW⟩ : ∃ W, W = w.alloc (.cells (wordV f) 41) := ⟨_, rfl⟩
  have h1 : Hid (Wd 41 W b0 f) := by show Wd 41 W b0 f; rw [hW, hb0]; exact Wd.boxed w 41 f
  have HB : Hid (Below w.heap.size w W) := by show Below w.heap.size w W; rw [hW]; exact (Below.refl _ _).alloc (Nat.le_refl _) _
  have HW := Lib.hid hW
  have hb' := hb0.symm
  clear hW hb0
  have hsz : (Try.prog.info? 41).map (·.size) = some (wordV f).size := by rw [wordV_size]; kernel_rfl
  have HSZ := Lib.hid hsz
  clear hsz
  go_enter Try.func36, Try.ntmps36
  go_upto_region 1 with (fail)
  rw [← HW.out]
  clear HW hb'
  go_upto_region 3 with (first | (go_at_call 16; (with_reducible refine (hnew _).mono ?_); rintro e w1 ⟨b, rfl, hF, hbn, hb1⟩; have HF := Lib.hid (And.intro hF (And.intro hbn hb1)); clear hF hbn hb1))
  obtain ⟨g, hg⟩ : ∃ g, g = w1.heap.size := ⟨_, rfl⟩
  obtain ⟨W2, hW2⟩ : ∃ W2, W2 = w1.alloc (.cells #[.int .i64 0, .int .i64 0, .int .i64 0, .int .i64 0, .int .i64 0, .int .i64 0, .int .i64 0, .int .i64 0, .int .i64 0, .int .i64 0, .int .i64 0, .int .i64 0, .int .i64 0, .int .i64 0, .int .i64 0, .int .i64 0, .int .i64 0, .int .i64 0, .int .i64 0, .int .i64 0] 3) := ⟨_, rfl⟩
  have hb12 : Below w1.heap.size w1 W2 := by rw [hW2]; exact (Below.refl _ _).alloc (Nat.le_refl _) _
  have hS : Hid (Sy w W2 b g (part f 0 0)) := by
    show Sy w W2 b g (part f 0 0)
    have hbw := HB.out.trans (HF.out.2.2.mono HB.out.size)
    refine ⟨HF.out.1.below hb12, ?_, hbw.trans (hb12.mono hbw.size), by rw [hg]; exact hbw.size, ?_⟩
    · refine ⟨by rw [hW2, hg]; simp, fun j hj => ?_⟩
      have hrow : W2.heap[g]? = some (.cells #[.int .i64 0, .int .i64 0, .int .i64 0, .int .i64 0, .int .i64 0, .int .i64 0, .int .i64 0, .int .i64 0, .int .i64 0, .int .i64 0, .int .i64 0, .int .i64 0, .int .i64 0, .int .i64 0, .int .i64 0, .int .i64 0, .int .i64 0, .int .i64 0, .int .i64 0, .int .i64 0] 3 (0, 0)) := by rw [hW2, hg]; exact heap_alloc_new w1 _
      rw [casts_length, part_length] at hj
      refine ⟨?_, frozen_of_row _ _ j _ 3 hrow⟩
      rw [cell_of_row _ _ j _ 3 (0, 0) hrow, casts_get, part_get f 0 0 j hj]
      have : ∀ j, j < 20 → (#[.int .i64 0, .int .i64 0, .int .i64 0, .int .i64 0, .int .i64 0, .int .i64 0, .int .i64 0, .int .i64 0, .int .i64 0, .int .i64 0, .int .i64 0, .int .i64 0, .int .i64 0, .int .i64 0, .int .i64 0, .int .i64 0, .int .i64 0, .int .i64 0, .int .i64 0, .int .i64 0] : Array Value)[j]? = some (.int .i64 0) := by
        intro j hj
        have : (#[.int .i64 0, .int .i64 0, .int .i64 0, .int .i64 0, .int .i64 0, .int .i64 0, .int .i64 0, .int .i64 0, .int .i64 0, .int .i64 0, .int .i64 0, .int .i64 0, .int .i64 0, .int .i64 0, .int .i64 0, .int .i64 0, .int .i64 0, .int .i64 0, .int .i64 0, .int .i64 0] : Array Value) = Array.replicate 20 (.int .i64 0) := by rfl
        rw [this, Array.getElem?_replicate, if_pos hj]
      rw [this j hj]; rfl
    · have := Fd.lt HF.out.1; omega
  have hrow := h1.out.below (HF.out.2.2.trans (hb12.mono HF.out.2.2.size))
  rw [← hW2, ← hg]
  clear hW2 hb12 hg HF
  go_wp2_with ((refine wpList_load_row rfl 41 _ rfl b0 rfl 41 (wordV f) (0, 0) _ hrow Try.underlying41 rfl HSZ.out ?_))
  clear hrow h1 HSZ HB hmk hnew
  go_loopw [11] (fun i wr => ∃ k : Nat, k ≤ 127 ∧ i = .int .i64 k ∧ Hid (Sy w wr b g (part f k 0))) (fun i _ => 127 - (intOf i).toNat)
  case atStart => exact ⟨0, by omega, rfl, hS⟩
  case round =>
    clear hS
    obtain ⟨k, hk, rfl, hA⟩ := hrel
    obtain ⟨wo, rfl⟩ : ∃ wo : World, wo = wr := ⟨_, rfl⟩
    by_cases hlt : k < 127
    · have hix : ∀ w, (Instr.index 41 (.agg (wordV f)) (.int .i64 k)).run Try.prog w = .ok (.bool (f k)) w := fun w => HWR.out w k hlt
      cases hf : f k with
      | true =>
        rw [hf] at hix
        have HF := Lib.hid hf
        clear hf
        go_wp2
        go_loopw [17] (fun j wi => ∃ m : Nat, m ≤ 20 ∧ j = .int .i64 m ∧ Hid (Sy w wi b g (part f k m))) (fun j _ => 20 - (intOf j).toNat)
        case atStart => exact ⟨0, by omega, rfl, hA⟩
        case round =>
          clear hA
          obtain ⟨m, hm, rfl, hI⟩ := hrel
          by_cases hml : m < 20
          · have hc := hI.out.row.at_ m (by rw [casts_length, part_length]; exact hml)
            rw [casts_get] at hc
            have hfr := hI.out.row.free m (by rw [casts_length, part_length]; exact hml)
            have hx := fun w hw => exp_is b ((k * (m + 1) : Nat) : Int) w hw
            rw [r127_nat] at hx
            obtain ⟨X, hX⟩ : ∃ X, X = (part f k m).getD m 0 := ⟨_, rfl⟩
            have hXl : X < 128 := by rw [hX]; exact part_lt f k m m
            obtain ⟨Y, hY⟩ : ∃ Y, Y = ex (k * (m + 1)) := ⟨_, rfl⟩
            have hYl : Y < 128 := by rw [hY]; exact ex_lt _
            rw [← hX] at hc
            rw [← hY] at hx
            have hxo := xor_i64 X Y (by omega) (by omega)
            have hst := part_on f k m HF.out hml
            rw [← hX, ← hY] at hst
            obtain ⟨M, hM⟩ : ∃ M, M = k * (m + 1) := ⟨_, rfl⟩
            have hMM : (k : Int) * ((m : Int) + 1) = (M : Int) := by rw [hM, Int.natCast_mul]; rfl
            have hMb : M ≤ 127 * 20 := by rw [hM]; exact Nat.mul_le_mul (by omega) (by omega)
            rw [← hM] at hx
            have q1 : ∀ n, Calls Try.prog 20 #[.pointer (some ⟨b, 0, none⟩), .int .i64 M] (wr.drewN n) fun e w'' => e = .returned (.int .i64 (Y : Nat)) ∧ ∃ m, w'' = wr.drewN m := fun n => quietE (hx _ (hI.out.fd.drewN n))
            have HST := Lib.hid hst
            have hN : ∀ nq, Hid (Sy w ((wr.drewN nq).setCell ⟨g, m, none⟩ (.int .i64 ((X ^^^ Y : Nat) : Int))) b g (part f k (m + 1))) := fun nq => by
              show Sy w _ b g _
              rw [HST.out]
              exact (hI.out.drewN nq).set m (X ^^^ Y) (by rw [part_length]; exact hml)
            clear hX hY hst hM hx hI
            go_wp2
            refine wp_region_quiet_tail 12 (by kernel_rfl) (by kernel_rfl) ?_
            simp only [List.take_succ_cons, List.take_zero, List.drop_succ_cons, List.drop_zero]
            repeat (go_big_quiet_step ((with_reducible exact q1 _)))
            refine wpQuiet_nil ?_
            intro _ hw'
            obtain ⟨nq, hw''⟩ := hw'
            subst hw''
            have hN1 := hN nq
            clear hN
            go_wp2
            go_roundw
            case rel => exact ⟨m + 1, by omega, by go_num, hN1⟩
            case measure => simp [intOf]; omega
          · obtain rfl : m = 20 := by omega
            rw [part_next] at hI
            go_wp2
            go_roundw
            case rel => exact ⟨k + 1, by omega, by go_num, hI⟩
            case measure => simp [intOf]; omega
      | false =>
        rw [hf] at hix
        have HF := Lib.hid hf
        clear hf
        go_wp2
        go_loopw [17] (fun j wi => ∃ m : Nat, m ≤ 20 ∧ j = .int .i64 m ∧ Hid (Sy w wi b g (part f k m))) (fun j _ => 20 - (intOf j).toNat)
        case atStart => exact ⟨0, by omega, rfl, hA⟩
        case round =>
          clear hA
          obtain ⟨m, hm, rfl, hI⟩ := hrel
          by_cases hml : m < 20
          · have hN : Hid (Sy w wr b g (part f k (m + 1))) := by
              show Sy w wr b g _
              rw [part_off f k m HF.out]; exact hI.out
            clear hI
            go_wp2
            go_roundw
            case rel => exact ⟨m + 1, by omega, by go_num, hN⟩
            case measure => simp [intOf]; omega
          · obtain rfl : m = 20 := by omega
            rw [part_next] at hI
            go_wp2
            go_roundw
            case rel => exact ⟨k + 1, by omega, by go_num, hI⟩
            case measure => simp [intOf]; omega
    · obtain rfl : k = 127 := by omega
      go_wp2
      go_ret
      exact ⟨g, rfl, hA.out.row, hA.out.below, hA.out.new⟩
end Go.Proofs.Ythponlnklmhbeaa
