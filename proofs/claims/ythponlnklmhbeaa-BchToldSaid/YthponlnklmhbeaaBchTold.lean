/- The law BchTold: its walk. -/
import Derived.Test.YthponlnklmhbeaaBchQuiet
import Derived.Test.YthponlnklmhbeaaFieldRoots
set_option linter.unusedVariables false
set_option linter.unusedSimpArgs false
namespace Go.Proofs.Ythponlnklmhbeaa
open Go.RowKit Go.Sort F7
/-- A word with bits turned over. -/
def fl (f : Nat → Bool) (ns : List Nat) : Nat → Nat → Bool
  | 0 => f
  | k + 1 => fun m => if m = ns.getD k 0 % 127 then !(fl f ns k (ns.getD k 0 % 127)) else fl f ns k m
theorem dist_upd (f h : Nat → Bool) (m : Nat) (b : Bool) (n : Nat) : dist f (fun i => if i = m then b else h i) n ≤ dist f h n + if m < n then 1 else 0 := by
  induction n with
  | zero => simp [dist]
  | succ n ih =>
    rw [dist_succ, dist_succ]
    by_cases e : n = m
    · subst e
      rw [if_neg (by omega)] at ih
      rw [if_pos (show n < n + 1 by omega)]
      simp only [if_true]
      split <;> split <;> omega
    · simp only [if_neg e]
      by_cases h2 : m < n
      · rw [if_pos h2] at ih; rw [if_pos (show m < n + 1 by omega)]; omega
      · rw [if_neg h2] at ih; rw [if_neg (show ¬m < n + 1 by omega)]; omega
theorem fl_dist (f : Nat → Bool) (ns : List Nat) (k : Nat) : dist f (fl f ns k) 127 ≤ k := by
  induction k with
  | zero => rw [fl, dist_self]; omega
  | succ k ih =>
    have := dist_upd f (fl f ns k) (ns.getD k 0 % 127) (!(fl f ns k (ns.getD k 0 % 127))) 127
    rw [if_pos (Nat.mod_lt _ (by decide))] at this
    rw [fl]; omega
theorem told {f h : Nat → Bool} (hf : Cw f) (hd : dist f h 127 ≤ 20) : isB h = decide (bl h = bl f) := by
  cases hb : isB h with
  | true =>
    have hc := (isB_cw h).1 hb
    have := hf.far hc hd
    exact (decide_eq_true (bl_eq.2 fun i hi => (this i hi).symm)).symm
  | false =>
    refine (decide_eq_false fun he => ?_).symm
    have : Cw h := hf.congr (bl_eq.1 he)
    rw [(isB_cw h).2 this] at hb
    cases hb
theorem below_word {w W : World} (hb : Below w.heap.size w W) (f : Nat → Bool) : Below w.heap.size w ((W.alloc (.cells (wordV fun _ => false) 41)).setRow W.heap.size (wordV f)) :=
  below_setRow (hb.alloc hb.size _) hb.size _
theorem word_word (W : World) (f : Nat → Bool) : Wd 41 ((W.alloc (.cells (wordV fun _ => false) 41)).setRow W.heap.size (wordV f)) W.heap.size f := setRow_heap _ _ _ _ 41 _ (heap_alloc_new W _)
set_option maxRecDepth 100000 in
set_option maxHeartbeats 3200000 in
theorem bchTold_walk (x : Int) (a0 : Option Addr) (n cap : Nat) (ns : List Nat) (w : World) (hx : (Lit.int .u64 x).wf = true) (hz : U8s w a0 n ns) :
    Calls Try.prog 12 #[.int .u64 x, .slice a0 n cap] w fun e w' => e = .returned (.bool true) ∧ Below w.heap.size w w' := by
  have hx0 := wf_u64 hx
  obtain ⟨X, rfl⟩ : ∃ X : Nat, x = X := ⟨x.toNat, by omega⟩
  have hX : X < 2 ^ 64 := by have := hx0.2; omega
  have ha := fun w => bchAwake_is w
  by_cases hn : n ≤ 20
  · have c1 := fun w => encode_is X hX w
    obtain ⟨f, hf⟩ : ∃ f, f = enc X := ⟨_, rfl⟩
    have hcw : Cw f := by rw [hf]; exact enc_cw X
    rw [← hf] at c1
    obtain ⟨V, hV⟩ : ∃ V, V = fl f ns n := ⟨_, rfl⟩
    have htold := told hcw (h := V) (by have := fl_dist f ns n; rw [hV]; omega)
    obtain ⟨B, hB⟩ : ∃ B, B = isB V := ⟨_, rfl⟩
    have d1 : ∀ w, Calls Try.prog 34 #[.agg (wordV V)] w fun e w' => e = .returned (.bool B) ∧ Below w.heap.size w w' := fun w => by rw [hB]; exact is_is V w
    have d2 : ∀ w, (Op.equalIn 10000 41 (.agg (wordV V)) (.agg (wordV f))).run Try.prog w = .ok B w := fun w => by
      have := eq_word V f w
      rw [← htold, ← hB] at this
      exact this
    have D := Lib.hid (And.intro d1 d2)
    have HV := Lib.hid hV
    have hzz := zero41
    have hszf := Lib.hid (size41 f)
    have hszV := Lib.hid (size41 V)
    have HZ := Lib.hid hz
    have hold : ∀ f, Hid ((wordV fun _ => false).size = (wordV f).size) := fun f => by show (wordV _).size = (wordV _).size; rw [wordV_size, wordV_size]
    clear hx hx0 hX hf hV hcw htold hB d1 d2 hz
    go_enter Try.func12, Try.ntmps12
    go_upto_region 4 with (first | (go_at_call 28; (with_reducible refine (ha _).mono ?_); rintro e w1 ⟨rfl, hb1⟩; have HB1 := Lib.hid hb1; clear hb1 ha) | (go_at_call 32; (with_reducible refine (c1 _).mono ?_); rintro e w2 ⟨rfl, hb2⟩; have HB2 := Lib.hid hb2; clear hb2 c1) | (refine wpList_store_row rfl 41 (.tmp 5) _ rfl w2.heap.size (wordV f) rfl rfl 41 _ (heap_alloc_new w2 _) hszf.out (hold f).out (wordV_one f) ?_))
    have HB : Hid (Below w.heap.size w ((w2.alloc (.cells (wordV fun _ => false) 41)).setRow w2.heap.size (wordV f))) := below_word (HB1.out.trans (HB2.out.mono HB1.out.size)) f
    have H1 := Lib.hid (word_word w2 f)
    clear HB1 HB2
    generalize (w2.alloc (.cells (wordV fun _ => false) 41)).setRow w2.heap.size (wordV f) = W3 at *
    generalize w2.heap.size = p at *
    go_upto_region 5 with (first | (refine wpList_load_row rfl 41 (.tmp 5) rfl p rfl 41 (wordV f) (0, 0) _ H1.out Try.underlying41 rfl hszf.out ?_) | (refine wpList_store_row rfl 41 (.tmp 6) _ rfl W3.heap.size (wordV f) rfl rfl 41 _ (heap_alloc_new W3 _) hszf.out (hold f).out (wordV_one f) ?_))
    have HT : Hid (Tw w ((W3.alloc (.cells (wordV fun _ => false) 41)).setRow W3.heap.size (wordV f)) p W3.heap.size f f) := by
      refine ⟨?_, word_word W3 f, below_word HB.out f, HB.out.size, by have := H1.out.lt; omega⟩
      exact H1.out.below (below_word (Below.refl _ _) f)
    clear HB H1 hold
    generalize (W3.alloc (.cells (wordV fun _ => false) 41)).setRow W3.heap.size (wordV f) = W at *
    generalize W3.heap.size = q at *
    clear hzz
    go_wp2
    go_loopw [7] (fun i wr => ∃ k : Nat, k ≤ n ∧ i = .int .i64 k ∧ Hid (Tw w wr p q f (fl f ns k))) (fun i _ => n - (intOf i).toNat)
    case atStart => exact ⟨0, Nat.zero_le _, rfl, HT⟩
    case round =>
      clear HT
      obtain ⟨k, hk, rfl, hA⟩ := hrel
      by_cases hlt : k < n
      · obtain ⟨g, o, rfl, hg, hcell⟩ := (HZ.out.below hA.out.below).2 (by omega)
        obtain ⟨hc, hcb⟩ := hcell k hlt
        have hN : Hid (∀ n, Tw w ((wr.drewN n).setCell ⟨q, ns.getD k 0 % 127, none⟩ (.bool (!(fl f ns k (ns.getD k 0 % 127))))) p q f (fl f ns (k + 1))) := fun n => by
          have hAn : Tw w (wr.drewN n) p q f (fl f ns k) := ⟨hA.out.one.drewN n, hA.out.two.drewN n, hA.out.below.trans ((below_drewN wr n).mono hA.out.below.size), hA.out.new, hA.out.ne⟩
          exact hAn.set _ _
        obtain ⟨c, hce⟩ : ∃ c, c = ns.getD k 0 := ⟨_, rfl⟩
        rw [← hce] at hc hcb hN
        have c2 := hA.out.two.cell (c % 127) (Nat.mod_lt _ (by decide))
        have c3 := hA.out.two.free (c % 127)
        obtain ⟨M, hM⟩ : ∃ M, M = c % 127 := ⟨_, rfl⟩
        have hMl : M < 127 := by omega
        have hMM : (c : Int) % 127 = (M : Int) := by omega
        rw [← hM] at c2 c3 hN
        obtain ⟨T, hT⟩ : ∃ T, T = fl f ns k M := ⟨_, rfl⟩
        rw [← hT] at c2 hN
        have HM := Lib.hid hM
        clear hM hce hcell hg hT
        obtain ⟨wo, rfl⟩ : ∃ wo : World, wo = wr := ⟨_, rfl⟩
        cases T
        all_goals
          go_wp2_with fail
          refine wp_region_quiet_tail 16 (by kernel_rfl) (by kernel_rfl) ?_
          simp only [List.take_succ_cons, List.take_zero, List.drop_succ_cons, List.drop_zero]
          repeat (go_big_quiet_step (fail))
          refine wpQuiet_nil ?_
          intro _ hw'
          obtain ⟨nq, hw''⟩ := hw'
          subst hw''
          go_wp2
          go_roundw
          case rel => exact ⟨k + 1, by omega, by go_num, Lib.hid (hN.out nq)⟩
          case measure => simp [intOf]; omega
      · obtain rfl : k = n := by omega
        have hw5 : Hid (Wd 41 wr p f) := hA.out.one
        have hw6 : Hid (Wd 41 wr q V) := by show Wd 41 wr q V; rw [HV.out]; exact hA.out.two
        have hbw : Hid (Below w.heap.size w wr) := hA.out.below
        have e1 := fun d os => (D.out.1 (grow (redrawn wr d) os)).regrown_of
        have e2 := D.out.2
        have HE1 := Lib.hid e1
        clear hA HV D e1 HZ
        cases B
        all_goals
          go_wp2_with fail
          refine wp_region_quiet_below (by kernel_rfl) (by kernel_rfl) ?_
          repeat (first | go_big_quiet_skip | (go_big_quiet_want; refine quiet_load_row 41 (.tmp 5) rfl p rfl 41 (wordV f) (0, 0) _ hw5.out Try.underlying41 rfl hszf.out ?_; simp only [Act.put, List.setIfInBounds_toArray, List.set_cons_succ, List.set_cons_zero]; go_big_quiet_on) | (go_big_quiet_want; refine quiet_load_row 41 (.tmp 6) rfl q rfl 41 (wordV V) (0, 0) _ hw6.out Try.underlying41 rfl hszV.out ?_; simp only [Act.put, List.setIfInBounds_toArray, List.set_cons_succ, List.set_cons_zero]; go_big_quiet_on) | go_big_quiet_step (with_reducible exact HE1.out _ _))
          refine wpQuiet_nil ?_
          intro _ hw'
          obtain ⟨⟨dq, osq⟩, hw''⟩ := hw'
          subst hw''
          have hbq : Below w.heap.size w (grow (redrawn wr dq) osq) := hbw.out.trans ((below_regrown wr dq osq).mono hbw.out.size)
          go_wp2
          go_ret
          exact ⟨rfl, hbq⟩
  · clear hx hx0 hX hz
    have ha1 := ha w
    go_enter Try.func12, Try.ntmps12
    go_wp2_with (first | (go_at_call 28; (with_reducible refine ha1.mono ?_); rintro e w1 ⟨rfl, hb1⟩; have HB1 := Lib.hid hb1; clear hb1) | (go_at_call 28; (with_reducible refine (ha _).mono ?_); rintro e w2 ⟨rfl, hb2⟩; have HB2 := Lib.hid hb2; clear hb2))
    go_ret
    exact ⟨rfl, HB1.out.trans (HB2.out.mono HB1.out.size)⟩
end Go.Proofs.Ythponlnklmhbeaa
