/- The walk of the law BitsBack. -/
import Derived.Test.YthhfogpkaeminaaBitsBackPure
import Derived.StillTailTactics
namespace Go.Proofs.Ythhfogpkaeminaa
open Go.RowKit Go.Sort
def pairCells (ks : List (Int × Int)) : List Value := ks.flatMap fun p => [.int .i64 p.1, .int .i64 p.2]
theorem pairCells_length (ks : List (Int × Int)) : (pairCells ks).length = ks.length * 2 := by
  induction ks with
  | nil => rfl
  | cons p ks ih => simp only [pairCells, List.flatMap_cons, List.length_append, List.length_cons, List.length_nil] at *; omega
theorem pairCells_at (ks : List (Int × Int)) : ∀ i, i < ks.length → (pairCells ks)[i * 2]? = some (.int .i64 (ks.getD i (0, 0)).1) ∧ (pairCells ks)[i * 2 + 1]? = some (.int .i64 (ks.getD i (0, 0)).2) := by
  induction ks with
  | nil => intro i h; simp at h
  | cons p ks ih =>
    intro i hi
    have e : pairCells (p :: ks) = .int .i64 p.1 :: .int .i64 p.2 :: pairCells ks := by simp [pairCells]
    rw [e]
    cases i with
    | zero => exact ⟨rfl, rfl⟩
    | succ i =>
      have := ih i (by simpa using hi)
      rw [show (i + 1) * 2 = i * 2 + 1 + 1 by omega]
      simpa using this
/-- The value v is a row of pairs that nobody else has. -/
def Own2 (w : World) (v : Value) (ks : List (Int × Int)) : Prop := w.ownsRow 0 40 2 v ks.length (pairCells ks)
theorem Own2.lt {w : World} {v : Value} {ks : List (Int × Int)} (h : Own2 w v ks) : ∀ j ∈ foot v, j < w.heap.size := by
  intro j hj
  have : v.ownBlock = some j := by
    unfold foot at hj
    cases hv : v.ownBlock <;> simp_all
  exact (World.ownsRow.lt h j this).2
theorem Own2.keep {w w' : World} {v : Value} {ks : List (Int × Int)} {F : List Nat} (h : Own2 w v ks) (hk : Keep w w' F) (hd : ∀ j ∈ foot v, j ∉ F) : Own2 w' v ks := by
  refine ⟨h.1, ?_⟩
  rcases h.2 with hn | ⟨g, cap, cur, rfl, hb, hgg, rest⟩
  · exact .inl hn
  · exact .inr ⟨g, cap, cur, rfl, hb, by rw [hk.block g (Array.getElem?_eq_some_iff.1 hgg).1 (hd g (by simp [foot, Value.ownBlock]))]; exact hgg, rest⟩
theorem Own2.ne {w : World} {e' : TypeId} {v : Value} {ks : List (Int × Int)} (h : Own2 w v ks) {b : Nat} {cs : Array Value} {fr : Nat × Nat} (hb : w.heap[b]? = some (.cells cs e' fr)) (hne : 40 ≠ e') : b ∉ foot v := by
  intro hf
  rcases h.2 with ⟨h1, _⟩ | ⟨g, cap, cur, rfl, _, hh, _⟩
  · rw [h1] at hf; simp [foot, Value.ownBlock] at hf
  · simp [foot, Value.ownBlock] at hf
    subst hf
    rw [hh] at hb
    injection hb with hb
    injection hb with _ ht
    exact hne ht
theorem Own2.form {w : World} {v : Value} {ks : List (Int × Int)} (h : Own2 w v ks) (hn : 0 < ks.length) : ∃ g cap, v = .slice (some ⟨g, 0, none⟩) ks.length cap := by
  obtain ⟨g, cap, hv, _, _⟩ := World.ownsRow.form h hn
  exact ⟨g, cap, hv⟩
theorem Own2.shape {w : World} {v : Value} {ks : List (Int × Int)} (h : Own2 w v ks) : ∃ a cap, v = .slice a ks.length cap := by
  rcases h.2 with ⟨h1, h2⟩ | ⟨g, cap, cur, hv, _⟩
  · exact ⟨none, 0, by rw [h1, h2]⟩
  · exact ⟨_, cap, hv⟩
theorem Own2.at_ {w : World} {g cap : Nat} {ks : List (Int × Int)} (h : Own2 w (.slice (some ⟨g, 0, none⟩) ks.length cap) ks) (i : Nat) (hi : i < ks.length) :
    w.cell? ⟨g, i * 2, none⟩ = some (.int .i64 (ks.getD i (0, 0)).1) ∧ w.cell? ⟨g, i * 2 + 1, none⟩ = some (.int .i64 (ks.getD i (0, 0)).2) := by
  rw [World.ownsRow.cellAt h (i * 2) (by omega), World.ownsRow.cellAt h (i * 2 + 1) (by omega)]
  exact pairCells_at ks i hi
theorem info40 : (Try.prog.info? 40).map (fun i => (i.zero, i.size, i.bytes)) = some (some (.agg #[.int .i64 0, .int .i64 0]), 2, 16) := by kernel_rfl
theorem append_pair {ops : Array Oper} {rest : List Oper} {o : Oper} {a : Act} {Q : Exit → Act → World → Prop} {W : World} (hgd : o.guard = none) (s x : Operand)
    (ho : o.op = .call { callee := .builtin .append, args := #[s, x], argTypes := #[37, 37] })
    (v : Value) (ks : List (Int × Int)) (p q : Int) (hs : a.eval s = v) (hx : a.eval x = .slice (some ⟨W.heap.size, 0, none⟩) 1 1) (HO : Own2 W v ks) (hl : ks.length ≤ 1000)
    (h : ∀ g cap w1, Own2 w1 (.slice (some ⟨g, 0, none⟩) (ks.length + 1) cap) (ks ++ [(p, q)]) → Keep W w1 (foot v) → (g ∈ foot v ∨ W.heap.size ≤ g) → wpList Try.prog ops Q rest (a.put o.dst (.slice (some ⟨g, 0, none⟩) (ks.length + 1) cap)) w1) :
    wpList Try.prog ops Q (o :: rest) a (W.alloc (.cells #[.int .i64 p, .int .i64 q] 40)) := by
  obtain ⟨i0, hi, hzz⟩ := Option.map_eq_some_iff.1 info40
  simp only [Prod.mk.injEq] at hzz
  obtain ⟨hz0, hz1, hz2⟩ := hzz
  refine wpList_append_own_at (W.alloc (.cells #[.int .i64 p, .int .i64 q] 40)) hgd s x 37 ho 0 40 i0 (.agg #[.int .i64 0, .int .i64 0]) 2 16 Try.underlying37 hi hz0 hz1 hz2 rfl (by omega) v ks.length (pairCells ks) hs (World.ownsRow.alloc HO _) ⟨W.heap.size, 0, none⟩ 1 1 [.int .i64 p, .int .i64 q] hx rfl
    (World.news_of_block (cs := #[.int .i64 p, .int .i64 q]) (t := 40) (fr := (0, 0)) (heap_alloc_new W _)) (by intro u hu; simp at hu; rcases hu with rfl | rfl <;> rfl) (by simp only [maxLen]; omega) (by omega) (by simp) ?_
  intro v1 w1 hown hg _ hat
  have hown' : Own2 w1 v1 (ks ++ [(p, q)]) := by
    unfold Own2
    have e : pairCells (ks ++ [(p, q)]) = pairCells ks ++ [.int .i64 p, .int .i64 q] := by simp [pairCells]
    rw [e, List.length_append]
    exact hown
  obtain ⟨g, cap, rfl⟩ := hown'.form (by simp)
  rw [List.length_append] at hown' ⊢
  refine h g cap w1 hown' ((Keep.alloc W _ _).trans (Keep.of_gb hg)) ?_
  rcases hat with hat | hat
  · left; unfold foot; rw [← hat]; simp [Value.ownBlock]
  · right
    simp [Value.ownBlock] at hat
    omega
/-- A Writer that has laid l, and a list of pairs, both made since w. -/
structure KState (w w' : World) (b : Nat) (v : Value) (l : List Bool) (ks : List (Int × Int)) : Prop where
  wr : ∃ F, Wr w' b F l ∧ (∀ j ∈ F, w.heap.size ≤ j) ∧ ∀ j ∈ F, j ∉ foot v
  own : Own2 w' v ks
  foot : ∀ j ∈ foot v, w.heap.size ≤ j
  below : Below w.heap.size w w'
  base : w.heap.size ≤ b
theorem KState.keep {w w1 w2 : World} {b : Nat} {v : Value} {l : List Bool} {ks : List (Int × Int)} (h : KState w w1 b v l ks) (hk : Keep w1 w2 []) : KState w w2 b v l ks := by
  obtain ⟨F, h1, h2, h3⟩ := h.wr
  exact ⟨⟨F, h1.keep hk (by simp) (by simp), h2, h3⟩, h.own.keep hk (by simp), h.foot, hk.below h.below (by simp), h.base⟩
theorem KState.cell {w w1 : World} {b : Nat} {v : Value} {l : List Bool} {ks : List (Int × Int)} (h : KState w w1 b v l ks) {a : Addr} {x : Value} (hc : w.cell? a = some x) : w1.cell? a = some x :=
  (h.below.cell (World.block_lt_of_cell? w a hc)).trans hc
theorem kput {w w1 : World} {b : Nat} {v : Value} {l : List Bool} {ks : List (Int × Int)} (h : KState w w1 b v l ks) (hl : l.length ≤ 99000) (x n : Int) (a1 a2 : Addr) (v1 v2 : Value) (h1 : w.cell? a1 = some v1) (h2 : w.cell? a2 = some v2) :
    Calls Try.prog 18 #[.pointer (some ⟨b, 0, none⟩), .int .i64 x, .int .i64 n] w1 fun e w' => e = .returned (.int .i64 (putErr x n)) ∧ w'.cell? a1 = some v1 ∧ w'.cell? a2 = some v2 ∧ Hid (KState w w' b v (l ++ putBits x n) ks) := by
  obtain ⟨F, hW, hF, hd⟩ := h.wr
  refine (put_is x n l hl b F w1 hW).mono ?_
  rintro e w2 ⟨rfl, F2, g1, g2, g3⟩
  have hbv : b ∉ Ythhfogpkaeminaa.foot v := by
    obtain ⟨v', hh, _, _⟩ := hW
    exact h.own.ne hh (by decide)
  have hs : KState w w2 b v (l ++ putBits x n) ks := by
    refine ⟨⟨F2, g1, ?_, ?_⟩, h.own.keep g2 ?_, h.foot, g2.below h.below ?_, h.base⟩
    · intro j hj
      rcases g3 j hj with h' | h'
      · exact hF j h'
      · exact Nat.le_trans h.below.size h'
    · intro j hj hjv
      rcases g3 j hj with h' | h'
      · exact hd j h' hjv
      · have := h.own.lt j hjv; omega
    · intro j hj hm
      rcases List.mem_cons.1 hm with h' | h'
      · exact hbv (h' ▸ hj)
      · exact hd j h' hj
    · intro j hj
      rcases List.mem_cons.1 hj with h' | h'
      · rw [h']; exact h.base
      · exact hF j h'
  exact ⟨rfl, hs.cell h1, hs.cell h2, hs⟩
theorem kappend {w w1 w3 : World} {b g c : Nat} {v : Value} {l : List Bool} {ks : List (Int × Int)} {p : Int × Int} (h : KState w w1 b v l ks) (ho : Own2 w3 (.slice (some ⟨g, 0, none⟩) (ks.length + 1) c) (ks ++ [p])) (hk : Keep w1 w3 (Ythhfogpkaeminaa.foot v)) (hf : g ∈ Ythhfogpkaeminaa.foot v ∨ w1.heap.size ≤ g) :
    KState w w3 b (.slice (some ⟨g, 0, none⟩) (ks.length + 1) c) l (ks ++ [p]) := by
  obtain ⟨F, hW, hF, hd⟩ := h.wr
  have hbv : b ∉ Ythhfogpkaeminaa.foot v := by
    obtain ⟨v', hh, _, _⟩ := hW
    exact h.own.ne hh (by decide)
  refine ⟨⟨F, hW.keep hk hbv hd, hF, ?_⟩, ho, ?_, hk.below h.below h.foot, h.base⟩
  · intro j hj hjv
    rw [foot_slice] at hjv
    simp only [List.mem_singleton] at hjv
    subst hjv
    rcases hf with h' | h'
    · exact hd _ hj h'
    · have := hW.foot_lt _ hj; omega
  · intro j hj
    rw [foot_slice] at hj
    simp only [List.mem_singleton] at hj
    subst hj
    rcases hf with h' | h'
    · exact h.foot _ h'
    · exact Nat.le_trans h.below.size h'
set_option maxRecDepth 100000 in
set_option maxHeartbeats 2000000 in
theorem bitsBack_walk (a0 : Option Addr) (n cap : Nat) (zs : List (Int × Int)) (w : World) (hz : Pairs w a0 n zs) :
    Calls Try.prog 11 #[.slice a0 n cap] w fun e w' => e = .returned (.bool true) ∧ Below w.heap.size w w' := by
  have hb0 := Below.refl w.heap.size w
  by_cases h60 : n ≤ 60
  · go_enter Try.func11, Try.ntmps11
    go_wp2_with (go_at_call 17; (with_reducible refine (on_base (by assumption) (bitsAwake_is _)).mono ?_); rintro e w1 ⟨rfl, hb1⟩)
    obtain ⟨b, hbe⟩ : ∃ b, b = w1.heap.size := ⟨_, rfl⟩
    have hw0 : Wr (w1.alloc (.cells #[.slice none 0 0, .int .i64 0] 31)) b [] [] := by rw [hbe]; exact wr_new w1
    have hB0 : Below w.heap.size w (w1.alloc (.cells #[.slice none 0 0, .int .i64 0] 31)) := hb1.alloc hb1.size _
    have hbw : w.heap.size ≤ b := by rw [hbe]; exact hb1.size
    rw [← hbe]
    clear hbe hb1
    generalize w1.alloc (.cells #[.slice none 0 0, .int .i64 0] 31) = W0 at *
    have hS0 : KState w W0 b (.slice none 0 0) (lay (zs.take 0)) (fit (zs.take 0)) := ⟨⟨[], by simpa [lay] using hw0, by simp, by simp⟩, by simpa [fit, Own2, pairCells] using World.ownsRow_nil W0 0 40 2, by simp [foot, Value.ownBlock], hB0, hbw⟩
    clear hw0 hB0
    go_loopw [4, 5, 6] (fun v x i wr => ∃ k : Nat, k ≤ n ∧ i = .int .i64 k ∧ x = .int .i64 ((lay (zs.take k)).length : Nat) ∧ Hid (KState w wr b v (lay (zs.take k)) (fit (zs.take k)))) (fun _ _ i _ => n - (intOf i).toNat)
    case atStart => exact ⟨0, Nat.zero_le _, rfl, by simp [lay], hS0⟩
    case round =>
      clear hS0
      obtain ⟨k, hk, rfl, rfl, hS⟩ := hrel
      by_cases hlt : k < n
      · have hz' := hz
        obtain ⟨zl, hzc⟩ := hz'
        obtain ⟨g, o, rfl, hg, hcell⟩ := hzc (by omega)
        obtain ⟨⟨x, m⟩, hp⟩ : ∃ p, p = zs.getD k (0, 0) := ⟨_, rfl⟩
        have hw1 := (hcell k hlt).1
        have hw2 := (hcell k hlt).2
        rw [← hp] at hw1 hw2
        have hc1 := hS.out.cell hw1
        have hc2 := hS.out.cell hw2
        have hL : (lay (zs.take k)).length ≤ 3360 := by
          have h1 := lay_length (zs.take k)
          rw [List.length_take] at h1
          omega
        have hF : (fit (zs.take k)).length ≤ 1000 := by
          have h1 : (fit (zs.take k)).length ≤ (zs.take k).length := List.length_filter_le _ _
          rw [List.length_take] at h1
          omega
        have hnext := lay_take zs k (by omega)
        have hnextf := fit_take zs k (by omega)
        rw [← hp] at hnext hnextf
        have hSd : KState w wr.drew b u4 (lay (zs.take k)) (fit (zs.take k)) := hS.out.keep (Keep.drew _ _)
        have hput := kput hSd (by omega) x m ⟨g, o + k * 2, none⟩ ⟨g, o + k * 2 + 1, none⟩ _ _ hw1 hw2
        have HNX := Lib.hid hnext
        have HNF := Lib.hid hnextf
        have HW12 := Lib.hid (And.intro hw1 hw2)
        clear hcell hp hSd hnext hnextf hS hw1 hw2
        by_cases hfit : Fit (x, m)
        · have he : putErr x m = 0 := hfit
          obtain ⟨hm1, hm2⟩ := fit_num (x, m) hfit
          obtain ⟨hb1, hb2, _⟩ := fit_bits (x, m) hfit
          rw [he] at hput
          have HM := Lib.hid hm2
          have HFI := Lib.hid hfit
          dsimp only at hb1 hb2
          clear he hm1 hm2 hfit
          obtain ⟨T, hT⟩ : ∃ T, T = (lay (zs.take k)).length := ⟨_, rfl⟩
          rw [← hT]
          rw [← hT] at hL
          have HT := Lib.hid hT
          clear hT
          go_wp2
          go_still_tail 11, (by kernel_rfl)
          change wpList _ _ _ _ _ wr.drew
          generalize wr.drew = wd at *
          clear hc1 hc2
          go_wp2_with (first | (go_at_call 18; (with_reducible refine hput.mono ?_); rintro e w2 ⟨rfl, hd1, hd2, hs2⟩) | (at_builtin; refine append_pair rfl _ _ rfl u4 (fit (zs.take k)) x m rfl rfl hs2.out.own hF ?_; intro g3 c3 w3 ho3 hk3 hf3; have hs3 := Lib.hid (kappend hs2.out ho3 hk3 hf3); have hc3 := hs3.out.cell HW12.out.2; clear ho3 hk3 hf3))
          go_roundw
          case rel => exact ⟨k + 1, by omega, by go_num, by rw [HNX.out, List.length_append, ← HT.out]; have := HM.out; go_num, by rw [HNX.out, HNF.out, if_pos HFI.out]; exact hs3.out⟩
          case measure => simp [intOf]; omega
        · have hne : ((putErr x m : Int) == 0) = false := by
            have : putErr x m ≠ 0 := hfit
            simp [this]
          have HFI := Lib.hid hfit
          have HPE := Lib.hid (putBits_err x m hfit)
          clear hfit
          go_wp2
          go_still_tail 11, (by kernel_rfl)
          change wpList _ _ _ _ _ wr.drew
          generalize wr.drew = wd at *
          clear hc1 hc2
          go_wp2_with (first | (go_at_call 18; (with_reducible refine hput.mono ?_); rintro e w2 ⟨rfl, hd1, hd2, hs2⟩))
          go_roundw
          case rel => 
            refine ⟨k + 1, by omega, by go_num, by rw [HNX.out, HPE.out, List.append_nil], ?_⟩
            rw [HNX.out, HNF.out, if_neg HFI.out, List.append_nil]
            exact hs2.out
          case measure => simp [intOf]; omega
      · obtain rfl : k = n := by omega
        have hall : zs.take k = zs := List.take_of_length_le (by rw [hz.1]; omega)
        rw [hall] at hS
        rw [hall]
        have hL : (lay zs).length ≤ 3360 := by
          have h1 := lay_length zs
          rw [hz.1] at h1
          omega
        obtain ⟨KS, hks⟩ : ∃ ks, ks = fit zs := ⟨_, rfl⟩
        obtain ⟨L, hl⟩ : ∃ L, L = lay zs := ⟨_, rfl⟩
        have HLK := Lib.hid (show L = lay KS by rw [hl, hks, lay_fit])
        have hfitk : ∀ i, i < KS.length → Fit (KS.getD i (0, 0)) := fun i hi => by
          have hm : KS.getD i (0, 0) ∈ fit zs := by
            rw [← hks, List.getD_eq_getElem?_getD, List.getElem?_eq_getElem hi, Option.getD_some]
            exact List.getElem_mem hi
          simpa using (List.mem_filter.1 hm).2
        have hkl : KS.length ≤ 60 := by
          rw [hks]
          have h1 : (fit zs).length ≤ zs.length := List.length_filter_le _ _
          rw [hz.1] at h1
          omega
        rw [← hks, ← hl] at hS
        rw [← hl] at hL
        rw [← hl]
        clear hks hl hall hz
        obtain ⟨F, hW, hF, hFv⟩ := hS.wr
        have hO := hS.own
        have hfo := hS.foot
        have hB := hS.below
        obtain ⟨va, vcap, hva⟩ := hO.shape
        subst hva
        have hby := bytes_is _ _ _ _ hW
        have hnew := new_is (packed L) wr
        have hsz : 8 * (packed L).size = 8 * ((L.length + 7) / 8) := packed_size L
        clear hS
        go_wp2_with (first | (go_at_call 19; (with_reducible refine hby.mono ?_); rintro e w' ⟨rfl, rfl⟩) | (go_at_call 30; (with_reducible refine hnew.mono ?_); rintro e W2 ⟨rfl, hR2, hb2⟩))
        obtain ⟨rb, hrb⟩ : ∃ rb, rb = wr.heap.size := ⟨_, rfl⟩
        rw [← hrb] at hR2
        rw [← hrb]
        have hk2 := Keep.of_below hb2 []
        have hW2 := hW.keep hk2 (by simp) (by simp)
        have hO2 := hO.keep hk2 (by simp)
        have hB2 := hk2.below hB (by simp)
        have hrbw : w.heap.size ≤ rb := by rw [hrb]; exact hB.size
        have hbn : b ∉ [rb] := by
          have := hW.lt
          simp only [List.mem_singleton]; omega
        have hFn : ∀ j ∈ F, j ∉ [rb] := fun j hj => by
          have := hW.foot_lt j hj
          simp only [List.mem_singleton]; omega
        have hvn : ∀ j ∈ foot (.slice va KS.length vcap), j ∉ [rb] := fun j hj => by
          have := hO.lt j hj
          simp only [List.mem_singleton]; omega
        clear hby hnew hrb hk2 hb2 hW hO hB
        go_loopw [8] (fun x wi => ∃ k : Nat, k ≤ KS.length ∧ x = .int .i64 k ∧ Rd wi rb (packed L) (lay (KS.take k)).length ∧ Keep W2 wi [rb]) (fun x _ => KS.length - (intOf x).toNat)
        case atStart => exact ⟨0, Nat.zero_le _, rfl, by simpa [lay] using hR2, Keep.refl _ _⟩
        case round =>
          clear hR2
          obtain ⟨i, hi, rfl, hR, hK⟩ := hrel
          by_cases hlt : i < KS.length
          · obtain ⟨g, c, hv⟩ := hO2.form (by omega)
            injection hv with hv1 hv2 hv3
            subst hv1 hv3
            have hOi := hO2.keep hK hvn
            obtain ⟨⟨x, m⟩, hp⟩ : ∃ p, p = KS.getD i (0, 0) := ⟨_, rfl⟩
            have hc := hOi.at_ i hlt
            have hfi := hfitk i hlt
            have hsp := lay_split KS i hlt
            have hle := lay_le KS i hlt
            have hnx := lay_take KS i hlt
            rw [← hp] at hc hfi hsp hle hnx
            dsimp only at hc hsp hle hnx
            obtain ⟨hm1, hm2⟩ := fit_num (x, m) hfi
            obtain ⟨hb1, hb2, _⟩ := fit_bits (x, m) hfi
            dsimp only at hm1 hm2 hb1 hb2
            obtain ⟨N, hN⟩ : ∃ N, N = (putBits x m).length := ⟨_, rfl⟩
            rw [← HLK.out] at hle hsp
            rw [← hN] at hle hsp hm2
            have hget := get_ok (packed L) _ N (by omega) (by omega) (by omega) rb wr hR
            rw [textBits_take L _ N hle, hsp, hm1, hm2] at hget
            have hcc1 := hc.1
            have hcc2 := hc.2
            have hat : ∀ W, Own2 W (.slice (some ⟨g, 0, none⟩) KS.length vcap) KS → W.cell? ⟨g, i * 2, none⟩ = some (.int .i64 x) := fun W hW => by
              have := (hW.at_ i hlt).1
              rw [← hp] at this
              exact this
            have HAT := Lib.hid hat
            have HNX := Lib.hid hnx
            have HN := Lib.hid hN
            have HHK := Lib.hid hK
            clear hN hnx hsp hle hm1 hm2 hfi hc hp hOi hfitk hR hat
            go_wp2_with (first | (go_at_call 27; (with_reducible refine hget.mono ?_); rintro e w4 ⟨rfl, hR4, hk4⟩; have hc4 := HAT.out _ (hO2.keep (HHK.out.trans hk4) hvn)))
            go_roundw
            case rel => exact ⟨i + 1, by omega, by go_num, by rw [HNX.out, List.length_append, ← HN.out]; exact hR4, HHK.out.trans hk4⟩
            case measure => simp [intOf]; omega
          · obtain rfl : i = KS.length := by omega
            have hall : KS.take KS.length = KS := List.take_length
            rw [hall, ← HLK.out] at hR
            have hW3 := hW2.keep hK hbn hFn
            have hB3 := hK.below hB2 (by intro j hj; simp only [List.mem_singleton] at hj; omega)
            have hbi := bits_is _ _ _ _ hW3
            have hlf := left_is (packed L) L.length (by omega) rb wr hR
            have hze : ∀ W, Keep wr W [] → Calls Try.prog 29 #[.pointer (some ⟨rb, 0, none⟩)] W fun e w' => e = .returned (.bool true) ∧ Below W.heap.size W w' := fun W hW => by
              have := zeros_is (packed L) L.length (by omega) rb W (hR.keep hW (by simp))
              rw [zeros_packed] at this; exact this
            have hlt8 : 8 * ((packed L).size : Int) - (L.length : Int) < 8 := by omega
            clear hall hR hK hfitk hvn hFn hbn hW3 hsz
            go_wp2_with (first | (go_at_call 20; (with_reducible refine hbi.mono ?_); rintro e w' ⟨rfl, rfl⟩) | (go_at_call 28; (with_reducible refine hlf.mono ?_); rintro e w5 ⟨rfl, hk5⟩; have hb5 := hk5.below hB3 (by simp)) | (go_at_call 29; (with_reducible refine (on_base hb5 (hze _ hk5)).mono ?_); rintro e w6 ⟨rfl, hb6⟩))
            go_ret
            exact ⟨rfl, hb6⟩
  · go_enter Try.func11, Try.ntmps11
    go_wp2_with (go_at_call 17; (with_reducible refine (on_base (by assumption) (bitsAwake_is _)).mono ?_); rintro e w1 ⟨rfl, hb1⟩)
    go_ret
    exact ⟨rfl, by assumption⟩
end Go.Proofs.Ythhfogpkaeminaa
