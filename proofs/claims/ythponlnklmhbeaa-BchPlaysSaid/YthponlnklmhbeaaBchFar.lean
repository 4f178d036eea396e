/- The example of bch; the law BchFar: their walks. -/
import Derived.Test.YthponlnklmhbeaaBchEnc
import Derived.Test.YthponlnklmhbeaaEqRows
set_option linter.unusedVariables false
set_option linter.unusedSimpArgs false
namespace Go.Proofs.Ythponlnklmhbeaa
open Go.RowKit Go.Sort F7
def bl (f : Nat → Bool) : List Bool := (List.range 127).map f
theorem bl_eq {f g : Nat → Bool} : bl f = bl g ↔ ∀ i, i < 127 → f i = g i := by
  unfold bl
  constructor
  · intro h i hi
    have := congrArg (fun l => l[i]?) h
    simpa [hi] using this
  · intro h
    apply List.map_congr_left
    intro i hi
    exact h i (List.mem_range.1 hi)
theorem wordV_bl (f : Nat → Bool) : wordV f = ((bl f).map Value.bool).toArray := by unfold wordV bl; rw [List.map_map]; rfl
theorem eq_word (f g : Nat → Bool) (w : World) : (Op.equalIn 10000 41 (.agg (wordV f)) (.agg (wordV g))).run Try.prog w = .ok (decide (bl f = bl g)) w := by
  rw [wordV_bl, wordV_bl]
  exact run_equalIn_list (P := Try.prog) Value.bool (d := 9999) Try.underlying41 (bl f) (bl g) (by simp [bl]) (by simp [bl]) w (by kernel_rfl) (by kernel_rfl) (fun a b => by
    rw [show (9999 : Nat) = 9998 + 1 from rfl, run_equalIn_bool w 9998 4 a b Try.underlying4]
    cases a <;> cases b <;> rfl)
theorem enc_zero : bl (enc 0) = bl fun _ => false := by
  rw [bl_eq]
  intro i hi
  exact ((enc_unique Cw.zero fun i _ => by simp) i hi).symm
theorem info_enc (x : Nat) (hx : x < 2 ^ 64) : info (enc x) 64 = x := by
  apply Nat.eq_of_testBit_eq
  intro i
  by_cases hi : i < 64
  · rw [info_bit _ 64 i hi, enc_bit x i hi]
  · have h1 : info (enc x) 64 < 2 ^ i := Nat.lt_of_lt_of_le (info_lt _ 64) (Nat.pow_le_pow_right (by decide) (by omega))
    have h2 : x < 2 ^ i := Nat.lt_of_lt_of_le hx (Nat.pow_le_pow_right (by decide) (by omega))
    rw [Nat.testBit_lt_two_pow h1, Nat.testBit_lt_two_pow h2]
theorem build_word (w : World) : (Instr.build 41 #[]).run Try.prog w = .ok (.agg (wordV fun _ => false)) w := run_build w 41 _ _ (by kernel_rfl)
set_option maxRecDepth 100000 in
theorem bchAwake_is (w : World) : Calls Try.prog 28 #[] w fun e w' => e = .returned (.bool true) ∧ Below w.heap.size w w' := by
  have c0 : ∀ w, Calls Try.prog 32 #[.int .u64 0] w fun e w' => e = .returned (.agg (wordV (enc 0))) ∧ Below w.heap.size w w' := fun w => encode_is 0 (by decide) w
  have c5 : ∀ w, Calls Try.prog 32 #[.int .u64 5] w fun e w' => e = .returned (.agg (wordV (enc 5))) ∧ Below w.heap.size w w' := fun w => encode_is 5 (by decide) w
  have i5 : ∀ w, Calls Try.prog 35 #[.agg (wordV (enc 5))] w fun e w' => e = .returned (.int .u64 5) ∧ Below w.heap.size w w' := fun w => by
    have := info_is (enc 5) w
    rw [info_enc 5 (by decide)] at this
    exact this
  have hz := zero41
  have q1 : ∀ w, (Op.equalIn 10000 41 (.agg (wordV (enc 0))) (.agg (wordV fun _ => false))).run Try.prog w = .ok true w := fun w => by
    have := eq_word (enc 0) (fun _ => false) w
    rw [decide_eq_true enc_zero] at this
    exact this
  go_enter Try.func28, Try.ntmps28
  go_wp2_with (first | (go_at_call 32; (with_reducible refine (c0 _).mono ?_); rintro e w1 ⟨rfl, hb1⟩; have HB1 := Lib.hid hb1; clear hb1 c0) | (go_at_call 32; (with_reducible refine (c5 _).mono ?_); rintro e w2 ⟨rfl, hb2⟩; have HB2 := Lib.hid hb2; clear hb2 c5) | (go_at_call 35; (with_reducible refine (i5 _).mono ?_); rintro e w3 ⟨rfl, hb3⟩; have HB3 := Lib.hid hb3; clear hb3))
  go_ret
  exact ⟨rfl, (HB1.out.trans (HB2.out.mono HB1.out.size)).trans (HB3.out.mono (by have := HB1.out.size; have := HB2.out.size; omega))⟩
/-- Two words, each in a block of its own. -/
theorem two_words (w : World) (f g : Nat → Bool) :
    ((w.alloc (.cells (wordV fun _ => false) 41)).alloc (.cells (wordV fun _ => false) 41)).heap[w.heap.size]? = some (.cells (wordV fun _ => false) 41 (0, 0)) ∧
    (((w.alloc (.cells (wordV fun _ => false) 41)).alloc (.cells (wordV fun _ => false) 41)).setRow w.heap.size (wordV f)).heap[w.heap.size + 1]? = some (.cells (wordV fun _ => false) 41 (0, 0)) ∧
    Wd 41 ((((w.alloc (.cells (wordV fun _ => false) 41)).alloc (.cells (wordV fun _ => false) 41)).setRow w.heap.size (wordV f)).setRow (w.heap.size + 1) (wordV g)) w.heap.size f ∧
    Wd 41 ((((w.alloc (.cells (wordV fun _ => false) 41)).alloc (.cells (wordV fun _ => false) 41)).setRow w.heap.size (wordV f)).setRow (w.heap.size + 1) (wordV g)) (w.heap.size + 1) g ∧
    Below w.heap.size w ((((w.alloc (.cells (wordV fun _ => false) 41)).alloc (.cells (wordV fun _ => false) 41)).setRow w.heap.size (wordV f)).setRow (w.heap.size + 1) (wordV g)) := by
  have h1 : ((w.alloc (.cells (wordV fun _ => false) 41)).alloc (.cells (wordV fun _ => false) 41)).heap[w.heap.size]? = some (.cells (wordV fun _ => false) 41 (0, 0)) := (Wd.boxed w 41 _).below ((Below.refl _ _).alloc (Nat.le_refl _) _)
  have h2 : ((w.alloc (.cells (wordV fun _ => false) 41)).alloc (.cells (wordV fun _ => false) 41)).heap[w.heap.size + 1]? = some (.cells (wordV fun _ => false) 41 (0, 0)) := by
    have := Wd.boxed (w.alloc (.cells (wordV fun _ => false) 41)) 41 (fun _ => false)
    rw [World.size_alloc] at this
    exact this
  have h3 := setRow_heap _ w.heap.size _ (wordV f) 41 _ h1
  have h4 : (((w.alloc (.cells (wordV fun _ => false) 41)).alloc (.cells (wordV fun _ => false) 41)).setRow w.heap.size (wordV f)).heap[w.heap.size + 1]? = some (.cells (wordV fun _ => false) 41 (0, 0)) := by
    rw [setRow_other _ _ _ _ (by omega)]; exact h2
  refine ⟨h1, h4, ?_, setRow_heap _ _ _ _ 41 _ h4, ?_⟩
  · unfold Wd
    rw [setRow_other _ _ _ _ (by omega)]; exact h3
  · exact below_setRow (below_setRow (((Below.refl _ _).alloc (Nat.le_refl _) _).alloc (by simp) _) (Nat.le_refl _) _) (by omega) _
theorem dist_comm (f g : Nat → Bool) (n : Nat) : dist f g n = dist g f n := by
  unfold dist
  apply List.countP_congr
  intro i _
  cases f i <;> cases g i <;> simp
theorem dist_self (f : Nat → Bool) (n : Nat) : dist f f n = 0 := by
  unfold dist
  rw [List.countP_eq_zero]
  intro i _
  simp
theorem enc_far (x y : Nat) (hx : x < 2 ^ 64) (hy : y < 2 ^ 64) (h : x ≠ y) : 21 ≤ dist (enc x) (enc y) 127 := by
  by_cases hd : dist (enc x) (enc y) 127 ≤ 20
  · exfalso
    have h1 := Cw.far (enc_cw x) (enc_cw y) hd
    apply h
    rw [← info_enc x hx, ← info_enc y hy]
    apply Nat.eq_of_testBit_eq
    intro i
    by_cases hi : i < 64
    · rw [info_bit _ 64 i hi, info_bit _ 64 i hi]; exact h1 (63 + i) (by omega)
    · have h3 : ∀ f, info f 64 < 2 ^ i := fun f => Nat.lt_of_lt_of_le (info_lt f 64) (Nat.pow_le_pow_right (by decide) (by omega))
      rw [Nat.testBit_lt_two_pow (h3 _), Nat.testBit_lt_two_pow (h3 _)]
  · omega
theorem wf_u64 {x : Int} (h : (Lit.int .u64 x).wf = true) : 0 ≤ x ∧ x < 18446744073709551616 := by
  simp only [Lit.wf, Bool.and_eq_true, decide_eq_true_eq] at h
  have h1 : IntKind.u64.min = 0 := rfl
  have h2 : IntKind.u64.max = 18446744073709551615 := rfl
  omega
set_option maxRecDepth 100000 in
set_option maxHeartbeats 1600000 in
theorem bchFar_walk (x y : Int) (w : World) (hx : (Lit.int .u64 x).wf = true) (hy : (Lit.int .u64 y).wf = true) :
    Calls Try.prog 10 #[.int .u64 x, .int .u64 y] w fun e w' => e = .returned (.bool true) ∧ Below w.heap.size w w' := by
  have hx0 := wf_u64 hx
  have hy0 := wf_u64 hy
  obtain ⟨X, rfl⟩ : ∃ X : Nat, x = X := ⟨x.toNat, by omega⟩
  obtain ⟨Y, rfl⟩ : ∃ X : Nat, y = X := ⟨y.toNat, by omega⟩
  have hX : X < 2 ^ 64 := by have := hx0.2; omega
  have hY : Y < 2 ^ 64 := by have := hy0.2; omega
  have ha := bchAwake_is w
  have c1 := fun w => encode_is X hX w
  have c2 := fun w => encode_is Y hY w
  have d1 := fun w => distance_is (enc X) (enc Y) w
  have d2 := fun w => distance_is (enc Y) (enc X) w
  have hfar := enc_far X Y hX hY
  have hle := dist_le (enc X) (enc Y) 127
  have hself : X = Y → dist (enc X) (enc Y) 127 = 0 := fun h => by rw [h]; exact dist_self _ _
  rw [dist_comm (enc Y) (enc X)] at d2
  obtain ⟨D, hD⟩ : ∃ D, D = dist (enc X) (enc Y) 127 := ⟨_, rfl⟩
  rw [← hD] at d1 d2 hfar hle hself
  have hz := zero41
  obtain ⟨f, hf⟩ : ∃ f, f = enc X := ⟨_, rfl⟩
  obtain ⟨g, hg⟩ : ∃ f, f = enc Y := ⟨_, rfl⟩
  rw [← hf] at c1 d1 d2
  rw [← hg] at c2 d1 d2
  have hszf := Lib.hid (size41 f)
  have hszg := Lib.hid (size41 g)
  have hold : ∀ f, Hid ((wordV fun _ => false).size = (wordV f).size) := fun f => by show (wordV _).size = (wordV _).size; rw [wordV_size, wordV_size]
  have HFAR := Lib.hid hfar
  have HSELF := Lib.hid hself
  clear hx hy hx0 hy0 hX hY hf hg hD hfar hself
  go_enter Try.func10, Try.ntmps10
  go_upto_region 4 with (first | (go_at_call 28; (with_reducible refine ha.mono ?_); rintro e w1 ⟨rfl, hb1⟩; have HB1 := Lib.hid hb1; clear hb1 ha) | (go_at_call 32; (with_reducible refine (c1 _).mono ?_); rintro e w2 ⟨rfl, hb2⟩; have HB2 := Lib.hid hb2; clear hb2 c1) | (go_at_call 32; (with_reducible refine (c2 _).mono ?_); rintro e w3 ⟨rfl, hb3⟩; have HB3 := Lib.hid hb3; clear hb3 c2) | (refine wpList_store_row rfl 41 (.tmp 5) _ rfl w3.heap.size (wordV f) rfl rfl 41 _ (two_words w3 f g).1 hszf.out (hold f).out (wordV_one f) ?_) | (refine wpList_store_row rfl 41 (.tmp 6) _ rfl (w3.heap.size + 1) (wordV g) rfl rfl 41 _ (two_words w3 f g).2.1 hszg.out (hold g).out (wordV_one g) ?_))
  obtain ⟨_, _, hf4, hg4, hb4⟩ := two_words w3 f g
  have HB4 := Lib.hid hb4
  have hrf : ((((w3.alloc (.cells (wordV fun _ => false) 41)).alloc (.cells (wordV fun _ => false) 41)).setRow w3.heap.size (wordV f)).setRow (w3.heap.size + 1) (wordV g)).heap[w3.heap.size]? = some (.cells (wordV f) 41 (0, 0)) := hf4
  have hrg : ((((w3.alloc (.cells (wordV fun _ => false) 41)).alloc (.cells (wordV fun _ => false) 41)).setRow w3.heap.size (wordV f)).setRow (w3.heap.size + 1) (wordV g)).heap[w3.heap.size + 1]? = some (.cells (wordV g) 41 (0, 0)) := hg4
  clear hf4 hg4 hb4
  have HB5 : Hid (Below w.heap.size w ((((w3.alloc (.cells (wordV fun _ => false) 41)).alloc (.cells (wordV fun _ => false) 41)).setRow w3.heap.size (wordV f)).setRow (w3.heap.size + 1) (wordV g))) := by
    show Below w.heap.size w _
    have b2 := HB1.out.trans (HB2.out.mono HB1.out.size)
    have b3 := b2.trans (HB3.out.mono b2.size)
    exact b3.trans (HB4.out.mono b3.size)
  generalize (((w3.alloc (.cells (wordV fun _ => false) 41)).alloc (.cells (wordV fun _ => false) 41)).setRow w3.heap.size (wordV f)).setRow (w3.heap.size + 1) (wordV g) = W4 at *
  generalize w3.heap.size + 1 = q at *
  generalize w3.heap.size = p at *
  have HRF := Lib.hid hrf
  have HRG := Lib.hid hrg
  clear HB1 HB2 HB3 HB4 hz
  have hpq := hrf
  go_upto_region 5 with (first | (refine wpList_load_row rfl 41 (.tmp 5) rfl p rfl 41 (wordV f) (0, 0) _ HRF.out Try.underlying41 rfl hszf.out ?_) | (refine wpList_load_row rfl 41 (.tmp 6) rfl q rfl 41 (wordV g) (0, 0) _ HRG.out Try.underlying41 rfl hszg.out ?_) | (go_at_call 33; (with_reducible refine (d1 _).mono ?_); rintro e w5 ⟨rfl, hb5⟩; have HB6 := Lib.hid hb5; clear hb5))
  have HRF5 : Hid (w5.heap[p]? = some (.cells (wordV f) 41 (0, 0))) := (HB6.out.block p (Array.getElem?_eq_some_iff.1 HRF.out).1).trans HRF.out
  have HRG5 : Hid (w5.heap[q]? = some (.cells (wordV g) 41 (0, 0))) := (HB6.out.block q (Array.getElem?_eq_some_iff.1 HRG.out).1).trans HRG.out
  have hbw : Hid (Below w.heap.size w w5) := HB5.out.trans (HB6.out.mono HB5.out.size)
  clear hrf hrg hpq d1
  by_cases he : X = Y
  · have h0 := HSELF.out he
    subst h0
    subst he
    go_wp2_with (first | (refine wpList_load_row rfl 41 (.tmp 5) rfl p rfl 41 (wordV f) (0, 0) _ HRF5.out Try.underlying41 rfl hszf.out ?_) | (refine wpList_load_row rfl 41 (.tmp 6) rfl q rfl 41 (wordV g) (0, 0) _ HRG5.out Try.underlying41 rfl hszg.out ?_) | (go_at_call 33; (with_reducible refine (d2 _).mono ?_); rintro e w6 ⟨rfl, hb6⟩; have HB7 := Lib.hid hb6; clear hb6))
    go_ret
    exact ⟨rfl, hbw.out.trans (HB7.out.mono hbw.out.size)⟩
  · have h1 := HFAR.out he
    have e1 : ((X : Int) == (Y : Int)) = false := by rw [beq_eq_false_iff_ne]; omega
    have e2 : ((X : Int) != (Y : Int)) = true := by simp; omega
    go_wp2_with (first | (refine wpList_load_row rfl 41 (.tmp 5) rfl p rfl 41 (wordV f) (0, 0) _ HRF5.out Try.underlying41 rfl hszf.out ?_) | (refine wpList_load_row rfl 41 (.tmp 6) rfl q rfl 41 (wordV g) (0, 0) _ HRG5.out Try.underlying41 rfl hszg.out ?_) | (go_at_call 33; (with_reducible refine (d2 _).mono ?_); rintro e w6 ⟨rfl, hb6⟩; have HB7 := Lib.hid hb6; clear hb6))
    go_ret
    exact ⟨by show Ending.returned (Value.bool (decide ((D:Int) ≤ 127))) = _; rw [show decide ((D:Int) ≤ 127) = true from decide_eq_true (by omega)], hbw.out.trans (HB7.out.mono hbw.out.size)⟩
end Go.Proofs.Ythponlnklmhbeaa
