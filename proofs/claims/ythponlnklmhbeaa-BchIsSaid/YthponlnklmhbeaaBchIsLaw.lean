/- The law BchIs: its walk. -/
import Derived.Test.YthponlnklmhbeaaBchQuiet
set_option linter.unusedVariables false
set_option linter.unusedSimpArgs false
namespace Go.Proofs.Ythponlnklmhbeaa
open Go.RowKit Go.Sort F7
/-- The sum of two words, k bits of it. -/
def xo (f g : Nat → Bool) (k : Nat) : Nat → Bool := fun m => if m < k then f m != g m else false
theorem xo_zero (f g : Nat → Bool) : xo f g 0 = fun _ => false := by funext m; simp [xo]
theorem xo_step (f g : Nat → Bool) (k : Nat) : xo f g (k + 1) = fun m => if m = k then (f k != g k) else xo f g k m := by
  funext m
  unfold xo
  by_cases e : m = k
  · subst e; rw [if_pos (by omega), if_pos rfl]
  · rw [if_neg e]
    by_cases h : m < k
    · rw [if_pos h, if_pos (by omega)]
    · rw [if_neg h, if_neg (by omega)]
theorem xo_cw {f g : Nat → Bool} (hf : Cw f) (hg : Cw g) : Cw (xo f g 127) := (hf.xor hg).congr fun i hi => by simp [xo, hi]
theorem xo_enc (x y : Nat) : bl (xo (enc x) (enc y) 127) = bl (enc (x ^^^ y)) :=
  bl_eq.2 (enc_unique (xo_cw (enc_cw x) (enc_cw y)) fun i hi => by
    unfold xo
    rw [if_pos (by omega), enc_bit x i hi, enc_bit y i hi, Nat.testBit_xor])
structure Th (w0 w : World) (a b c : Nat) (f g h : Nat → Bool) : Prop where
  one : Wd 41 w a f
  two : Wd 41 w b g
  three : Wd 41 w c h
  below : Below w0.heap.size w0 w
  new : w0.heap.size ≤ c
  ne : a ≠ c
  ne' : b ≠ c
theorem Th.set {w0 w : World} {a b c : Nat} {f g h : Nat → Bool} (H : Th w0 w a b c f g h) (i : Nat) (x : Bool) : Th w0 (w.setCell ⟨c, i, none⟩ (.bool x)) a b c f g (fun m => if m = i then x else h m) :=
  ⟨(Below.heap_setCell _ _ _ _ H.ne).trans H.one, (Below.heap_setCell _ _ _ _ H.ne').trans H.two, H.three.set i x, below_gb H.below (gb_setCell _ ⟨c, i, none⟩ _) H.below.size H.new, H.new, H.ne, H.ne'⟩
theorem Th.drewN {w0 w : World} {a b c : Nat} {f g h : Nat → Bool} (H : Th w0 w a b c f g h) (k : Nat) : Th w0 (w.drewN k) a b c f g h :=
  ⟨H.one.drewN k, H.two.drewN k, H.three.drewN k, H.below.trans ((below_drewN w k).mono H.below.size), H.new, H.ne, H.ne'⟩
theorem th_start {w W : World} {a b : Nat} {f g : Nat → Bool} (h1 : Wd 41 W a f) (h2 : Wd 41 W b g) (hb : Below w.heap.size w W) : Th w (W.alloc (.cells (wordV fun _ => false) 41)) a b W.heap.size f g (fun _ => false) := by
  have hA := Below.alloc (Below.refl W.heap.size W) (Nat.le_refl _) (.cells (wordV fun _ => false) 41)
  have l1 := h1.lt
  have l2 := h2.lt
  exact ⟨h1.below hA, h2.below hA, Wd.boxed W 41 _, hb.trans (hA.mono hb.size), hb.size, by omega, by omega⟩
set_option maxRecDepth 100000 in
set_option maxHeartbeats 3200000 in
theorem bchIs_walk (x y : Int) (w : World) (hx : (Lit.int .u64 x).wf = true) (hy : (Lit.int .u64 y).wf = true) :
    Calls Try.prog 11 #[.int .u64 x, .int .u64 y] w fun e w' => e = .returned (.bool true) ∧ Below w.heap.size w w' := by
  have hx0 := wf_u64 hx
  have hy0 := wf_u64 hy
  obtain ⟨X, rfl⟩ : ∃ X : Nat, x = X := ⟨x.toNat, by omega⟩
  obtain ⟨Y, rfl⟩ : ∃ X : Nat, y = X := ⟨y.toNat, by omega⟩
  have hX : X < 2 ^ 64 := by have := hx0.2; omega
  have hY : Y < 2 ^ 64 := by have := hy0.2; omega
  have ha := bchAwake_is w
  have c1 := fun w => encode_is X hX w
  have c2 := fun w => encode_is Y hY w
  have isd : ∀ V, Cw V → ∀ w, Calls Try.prog 34 #[.agg (wordV V)] w fun e w' => e = .returned (.bool true) ∧ Below w.heap.size w w' := fun V hVc w => by
    have := is_is V w
    rw [(isB_cw V).2 hVc] at this
    exact this
  have d1 := isd _ (enc_cw X)
  have d2 := isd _ (enc_cw Y)
  have d3 := isd _ (xo_cw (enc_cw X) (enc_cw Y))
  have hxo := xor_u64 X Y hX hY
  have d4 : ∀ w, Calls Try.prog 32 #[.int .u64 ((X ^^^ Y : Nat) : Int)] w fun e w' => e = .returned (.agg (wordV (enc (X ^^^ Y)))) ∧ Below w.heap.size w w' := fun w => encode_is _ (Nat.xor_lt_two_pow hX hY) w
  have d5 : ∀ w, (Op.equalIn 10000 41 (.agg (wordV (xo (enc X) (enc Y) 127))) (.agg (wordV (enc (X ^^^ Y))))).run Try.prog w = .ok true w := fun w => by
    have := eq_word (xo (enc X) (enc Y) 127) (enc (X ^^^ Y)) w
    rw [decide_eq_true (xo_enc X Y)] at this
    exact this
  have d6 : ∀ w, Calls Try.prog 35 #[.agg (wordV (enc X))] w fun e w' => e = .returned (.int .u64 (X : Nat)) ∧ Below w.heap.size w w' := fun w => by
    have := info_is (enc X) w
    rw [info_enc X hX] at this
    exact this
  have d7 : ∀ w, Calls Try.prog 35 #[.agg (wordV (enc Y))] w fun e w' => e = .returned (.int .u64 (Y : Nat)) ∧ Below w.heap.size w w' := fun w => by
    have := info_is (enc Y) w
    rw [info_enc Y hY] at this
    exact this
  obtain ⟨Z, hZ⟩ : ∃ Z, Z = X ^^^ Y := ⟨_, rfl⟩
  rw [← hZ] at hxo d4 d5
  obtain ⟨G, hG⟩ : ∃ G, G = enc Z := ⟨_, rfl⟩
  rw [← hG] at d4 d5
  obtain ⟨f, hf⟩ : ∃ f, f = enc X := ⟨_, rfl⟩
  obtain ⟨g, hg⟩ : ∃ f, f = enc Y := ⟨_, rfl⟩
  rw [← hf] at c1 d1 d3 d5 d6
  rw [← hg] at c2 d2 d3 d5 d7
  obtain ⟨S, hS⟩ : ∃ S, S = xo f g 127 := ⟨_, rfl⟩
  rw [← hS] at d3 d5
  have D := Lib.hid (And.intro d1 (And.intro d2 (And.intro d3 (And.intro d4 (And.intro d5 (And.intro d6 d7))))))
  have HXO := Lib.hid hxo
  have HS := Lib.hid hS
  have hz := zero41
  have hszf := Lib.hid (size41 f)
  have hszg := Lib.hid (size41 g)
  have hszS := Lib.hid (size41 S)
  have hold : ∀ f, Hid ((wordV fun _ => false).size = (wordV f).size) := fun f => by show (wordV _).size = (wordV _).size; rw [wordV_size, wordV_size]
  clear hx hy hx0 hy0 hX hY hf hg hG hZ hS hxo d1 d2 d3 d4 d5 d6 d7 isd
  go_enter Try.func11, Try.ntmps11
  go_upto_region 4 with (first | (go_at_call 28; (with_reducible refine ha.mono ?_); rintro e w1 ⟨rfl, hb1⟩; have HB1 := Lib.hid hb1; clear hb1 ha) | (go_at_call 32; (with_reducible refine (c1 _).mono ?_); rintro e w2 ⟨rfl, hb2⟩; have HB2 := Lib.hid hb2; clear hb2 c1) | (go_at_call 32; (with_reducible refine (c2 _).mono ?_); rintro e w3 ⟨rfl, hb3⟩; have HB3 := Lib.hid hb3; clear hb3 c2) | (refine wpList_store_row rfl 41 (.tmp 5) _ rfl w3.heap.size (wordV f) rfl rfl 41 _ (two_words w3 f g).1 hszf.out (hold f).out (wordV_one f) ?_) | (refine wpList_store_row rfl 41 (.tmp 6) _ rfl (w3.heap.size + 1) (wordV g) rfl rfl 41 _ (two_words w3 f g).2.1 hszg.out (hold g).out (wordV_one g) ?_))
  obtain ⟨_, _, hf4, hg4, hb4⟩ := two_words w3 f g
  have HB : Hid (Below w.heap.size w ((((w3.alloc (.cells (wordV fun _ => false) 41)).alloc (.cells (wordV fun _ => false) 41)).setRow w3.heap.size (wordV f)).setRow (w3.heap.size + 1) (wordV g))) := by
    show Below w.heap.size w _
    have b2 := HB1.out.trans (HB2.out.mono HB1.out.size)
    have b3 := b2.trans (HB3.out.mono b2.size)
    exact b3.trans (hb4.mono b3.size)
  have HT := Lib.hid (th_start hf4 hg4 HB.out)
  clear hf4 hg4 hb4 HB HB1 HB2 HB3 hold
  generalize ((((w3.alloc (.cells (wordV fun _ => false) 41)).alloc (.cells (wordV fun _ => false) 41)).setRow w3.heap.size (wordV f)).setRow (w3.heap.size + 1) (wordV g)) = W4 at *
  generalize w3.heap.size + 1 = q at *
  generalize w3.heap.size = p at *
  go_upto_region 5 with (fail)
  generalize W4.alloc (.cells (wordV fun _ => false) 41) = W at *
  generalize W4.heap.size = r at *
  clear hz
  go_wp2
  rw [← xo_zero f g] at HT
  go_loopw [8] (fun i wr => ∃ k : Nat, k ≤ 127 ∧ i = .int .i64 k ∧ Hid (Th w wr p q r f g (xo f g k))) (fun i _ => 127 - (intOf i).toNat)
  case atStart => exact ⟨0, by omega, rfl, HT⟩
  case round =>
    clear HT
    obtain ⟨k, hk, rfl, hA⟩ := hrel
    by_cases hlt : k < 127
    · have c1 := hA.out.one.cell k hlt
      have c2 := hA.out.two.cell k hlt
      have hN : Hid (∀ n, Th w ((wr.drewN n).setCell ⟨r, k, none⟩ (.bool (f k != g k))) p q r f g (xo f g (k + 1))) := fun n => by
        rw [xo_step]; exact (hA.out.drewN n).set k _
      have c3 := hA.out.three.cell k hlt
      have c4 := hA.out.three.free k
      obtain ⟨wo, rfl⟩ : ∃ wo : World, wo = wr := ⟨_, rfl⟩
      cases hf : f k <;> cases hg : g k
      all_goals
        rw [hf] at c1
        rw [hg] at c2
        rw [hf, hg] at hN
        clear hf hg
        go_wp2_with fail
        refine wp_region_quiet_tail 9 (by kernel_rfl) (by kernel_rfl) ?_
        simp only [List.take_succ_cons, List.take_zero, List.drop_succ_cons, List.drop_zero]
        repeat (go_big_quiet_step (fail))
        refine wpQuiet_nil ?_
        intro _ hw'
        obtain ⟨nq, hw''⟩ := hw'
        subst hw''
        go_wp2
        go_roundw
        case rel => exact ⟨k + 1, by omega, by go_num, Lib.hid (hN.out nq)⟩
        case measure => simp [intOf]; omega
    · obtain rfl : k = 127 := by omega
      have hw5 : Hid (Wd 41 wr p f) := hA.out.one
      have hw6 : Hid (Wd 41 wr q g) := hA.out.two
      have hw7 : Hid (Wd 41 wr r S) := by show Wd 41 wr r S; rw [HS.out]; exact hA.out.three
      have hbw : Hid (Below w.heap.size w wr) := hA.out.below
      have e1 := fun d os => (D.out.1 (grow (redrawn wr d) os)).regrown_of
      have e2 := fun d os => (D.out.2.1 (grow (redrawn wr d) os)).regrown_of
      have e3 := fun d os => (D.out.2.2.1 (grow (redrawn wr d) os)).regrown_of
      have e4 := fun d os => (D.out.2.2.2.1 (grow (redrawn wr d) os)).regrown_of
      have e5 := D.out.2.2.2.2.1
      have e6 := fun d os => (D.out.2.2.2.2.2.1 (grow (redrawn wr d) os)).regrown_of
      have e7 := fun d os => (D.out.2.2.2.2.2.2 (grow (redrawn wr d) os)).regrown_of
      have hxo := HXO.out
      have HE1 := Lib.hid e1
      have HE2 := Lib.hid e2
      have HE3 := Lib.hid e3
      have HE4 := Lib.hid e4
      have HE6 := Lib.hid e6
      have HE7 := Lib.hid e7
      clear hA HS D e1 e2 e3 e4 e6 e7 HXO
      go_wp2_with fail
      refine wp_region_quiet_below (by kernel_rfl) (by kernel_rfl) ?_
      repeat (first | go_big_quiet_skip | (go_big_quiet_want; refine quiet_load_row 41 (.tmp 5) rfl p rfl 41 (wordV f) (0, 0) _ hw5.out Try.underlying41 rfl hszf.out ?_; simp only [Act.put, List.setIfInBounds_toArray, List.set_cons_succ, List.set_cons_zero]; go_big_quiet_on) | (go_big_quiet_want; refine quiet_load_row 41 (.tmp 6) rfl q rfl 41 (wordV g) (0, 0) _ hw6.out Try.underlying41 rfl hszg.out ?_; simp only [Act.put, List.setIfInBounds_toArray, List.set_cons_succ, List.set_cons_zero]; go_big_quiet_on) | (go_big_quiet_want; refine quiet_load_row 41 (.tmp 7) rfl r rfl 41 (wordV S) (0, 0) _ hw7.out Try.underlying41 rfl hszS.out ?_; simp only [Act.put, List.setIfInBounds_toArray, List.set_cons_succ, List.set_cons_zero]; go_big_quiet_on) | go_big_quiet_step (first | (with_reducible exact HE1.out _ _) | (with_reducible exact HE2.out _ _) | (with_reducible exact HE3.out _ _) | (with_reducible exact HE4.out _ _) | (with_reducible exact HE6.out _ _) | (with_reducible exact HE7.out _ _)))
      refine wpQuiet_nil ?_
      intro _ hw'
      obtain ⟨⟨dq, osq⟩, hw''⟩ := hw'
      subst hw''
      have hbq : Below w.heap.size w (grow (redrawn wr dq) osq) := hbw.out.trans ((below_regrown wr dq osq).mono hbw.out.size)
      go_wp2
      go_ret
      exact ⟨rfl, hbq⟩
end Go.Proofs.Ythponlnklmhbeaa
