/- The walk of the law BitsLays. -/
import Derived.Test.YthhfogpkaeminaaBitsRef
import Derived.Test.YthhfogpkaeminaaAppendRow
import Derived.BigQuiet
import Derived.StillTailTactics
import Derived.Deep.RegionLaw
namespace Go.Proofs.Ythhfogpkaeminaa
open Go.RowKit Go.Sort
/-- A slice of pairs of numbers that is read. -/
def Pairs (w : World) (a : Option Addr) (n : Nat) (zs : List (Int × Int)) : Prop :=
  zs.length = n ∧ (0 < n → ∃ b o, a = some ⟨b, o, none⟩ ∧ b < w.heap.size ∧ ∀ i, i < n → w.cell? ⟨b, o + i * 2, none⟩ = some (.int .i64 (zs.getD i (0, 0)).1) ∧ w.cell? ⟨b, o + i * 2 + 1, none⟩ = some (.int .i64 (zs.getD i (0, 0)).2))
/-- What is laid of numbers. -/
def lay (zs : List (Int × Int)) : List Bool := zs.flatMap fun p => putBits p.1 p.2
theorem putBits_length (x n : Int) : (putBits x n).length ≤ 56 := by
  unfold putBits
  split
  · rename_i h
    rw [Bits.bitsN_length]
    unfold putErr at h
    split at h
    · simp at h
    · omega
  · simp
theorem lay_length (zs : List (Int × Int)) : (lay zs).length ≤ 56 * zs.length := by
  induction zs with
  | nil => simp [lay]
  | cons p zs ih =>
    have := putBits_length p.1 p.2
    simp only [lay, List.flatMap_cons, List.length_append, List.length_cons] at *
    omega
theorem lay_take (zs : List (Int × Int)) (k : Nat) (hk : k < zs.length) : lay (zs.take (k + 1)) = lay (zs.take k) ++ putBits (zs.getD k (0, 0)).1 (zs.getD k (0, 0)).2 := by
  rw [List.take_succ_eq_append_getElem hk]
  unfold lay
  rw [List.flatMap_append]
  simp [List.getD_eq_getElem?_getD, List.getElem?_eq_getElem hk]
theorem Keep.drewN (w : World) (n : Nat) (F : List Nat) : Keep w (w.drewN n) F := ⟨rfl, rfl, rfl, Nat.le_refl _, fun _ _ _ => rfl⟩
/-- A Writer that has laid l, and a list that holds m, both made since w. -/
structure State (w w' : World) (b : Nat) (v : Value) (l m : List Bool) : Prop where
  wr : ∃ F, Wr w' b F l ∧ (∀ j ∈ F, w.heap.size ≤ j) ∧ ∀ j ∈ F, j ∉ foot v
  own : Own w' 3 .i64 v (bools m)
  foot : ∀ j ∈ foot v, w.heap.size ≤ j
  below : Below w.heap.size w w'
  base : w.heap.size ≤ b
theorem State.keep {w w1 w2 : World} {b : Nat} {v : Value} {l m : List Bool} (h : State w w1 b v l m) (hk : Keep w1 w2 []) : State w w2 b v l m := by
  obtain ⟨F, h1, h2, h3⟩ := h.wr
  exact ⟨⟨F, h1.keep hk (by simp) (by simp), h2, h3⟩, h.own.keep hk (by simp), h.foot, hk.below h.below (by simp), h.base⟩
theorem State.cell {w w1 : World} {b : Nat} {v : Value} {l m : List Bool} (h : State w w1 b v l m) {a : Addr} {x : Value} (hc : w.cell? a = some x) : w1.cell? a = some x :=
  (h.below.cell (World.block_lt_of_cell? w a hc)).trans hc
theorem state_put {w w1 : World} {b : Nat} {v : Value} {l m : List Bool} (h : State w w1 b v l m) (hl : l.length ≤ 99000) (x n : Int) (a1 a2 : Addr) (v1 v2 : Value) (h1 : w.cell? a1 = some v1) (h2 : w.cell? a2 = some v2) :
    Calls Try.prog 18 #[.pointer (some ⟨b, 0, none⟩), .int .i64 x, .int .i64 n] w1 fun e w' => e = .returned (.int .i64 (putErr x n)) ∧ w'.cell? a1 = some v1 ∧ w'.cell? a2 = some v2 ∧ Hid (State w w' b v (l ++ putBits x n) m) := by
  obtain ⟨F, hW, hF, hd⟩ := h.wr
  refine (put_is x n l hl b F w1 hW).mono ?_
  rintro e w2 ⟨rfl, F2, g1, g2, g3⟩
  have hbv : b ∉ foot v := by
    obtain ⟨v', hh, _, _⟩ := hW
    exact h.own.ne hh (by decide)
  have hs : State w w2 b v (l ++ putBits x n) m := by
    refine ⟨⟨F2, g1, ?_, ?_⟩, h.own.keep g2 ?_, h.foot, g2.below h.below ?_, h.base⟩
    · intro j hj
      rcases g3 j hj with h' | h'
      · exact hF j h'
      · exact Nat.le_trans h.below.size h'
    · intro j hj hjv
      rcases g3 j hj with h' | h'
      · exact hd j h' hjv
      · have := h.own.lt j hjv; omega
    · intro j hj hm
      rcases List.mem_cons.1 hm with h' | h'
      · exact hbv (h' ▸ hj)
      · exact hd j h' hj
    · intro j hj
      rcases List.mem_cons.1 hj with h' | h'
      · rw [h']; exact h.base
      · exact hF j h'
  exact ⟨rfl, hs.cell h1, hs.cell h2, hs⟩
theorem state_append {w w1 w2 w3 : World} {b : Nat} {v v3 : Value} {l m p : List Bool} (h : State w w1 b v l m) (hb : Below w1.heap.size w1 w2) (ho : Own w3 3 .i64 v3 (bools m ++ bools p)) (hk : Keep w2 w3 (Ythhfogpkaeminaa.foot v)) (hf : ∀ j ∈ Ythhfogpkaeminaa.foot v3, j ∈ Ythhfogpkaeminaa.foot v ∨ w2.heap.size ≤ j) :
    State w w3 b v3 l (m ++ p) := by
  have h2 := h.keep (Keep.of_below hb [])
  obtain ⟨F, hW, hF, hd⟩ := h2.wr
  have hbv : b ∉ Ythhfogpkaeminaa.foot v := by
    obtain ⟨v', hh, _, _⟩ := hW
    exact h2.own.ne hh (by decide)
  refine ⟨⟨F, hW.keep hk hbv hd, hF, ?_⟩, by rw [bools_append]; exact ho, ?_, hk.below h2.below h2.foot, h2.base⟩
  · intro j hj hjv
    rcases hf j hjv with h' | h'
    · exact hd j hj h'
    · have := hW.foot_lt j hj; omega
  · intro j hj
    rcases hf j hj with h' | h'
    · exact h2.foot j h'
    · exact Nat.le_trans h2.below.size h'
theorem fits_same (x : Int) (N : Nat) (hN : N ≤ 56) (r : Bool) (hr : r = decide (0 ≤ x ∧ x < 2 ^ N)) (w : World) :
    Calls Try.prog 21 #[.int .i64 x, .int .i64 N] w fun e w' => e = .returned (.bool r) ∧ w' = w := (fits_is x N hN r hr w).mono fun _ _ ⟨h1, h2⟩ => ⟨h1, h2.symm⟩
set_option maxRecDepth 100000 in
set_option maxHeartbeats 2000000 in
theorem bitsLays_walk (a0 : Option Addr) (n cap : Nat) (zs : List (Int × Int)) (w : World) (hz : Pairs w a0 n zs) :
    Calls Try.prog 6 #[.slice a0 n cap] w fun e w' => e = .returned (.bool true) ∧ Below w.heap.size w w' := by
  have hb0 := Below.refl w.heap.size w
  by_cases h60 : n ≤ 60
  · go_enter Try.func6, Try.ntmps6
    go_wp2_with (go_at_call 17; (with_reducible refine (on_base (by assumption) (bitsAwake_is _)).mono ?_); rintro e w1 ⟨rfl, hb1⟩)
    obtain ⟨b, hbe⟩ : ∃ b, b = w1.heap.size := ⟨_, rfl⟩
    have hw0 : Wr (w1.alloc (.cells #[.slice none 0 0, .int .i64 0] 31)) b [] [] := by rw [hbe]; exact wr_new w1
    have hB0 : Below w.heap.size w (w1.alloc (.cells #[.slice none 0 0, .int .i64 0] 31)) := hb1.alloc hb1.size _
    have hbw : w.heap.size ≤ b := by rw [hbe]; exact hb1.size
    rw [← hbe]
    clear hbe hb1
    generalize w1.alloc (.cells #[.slice none 0 0, .int .i64 0] 31) = W0 at *
    have hS0 : State w W0 b (.slice none 0 0) (lay (zs.take 0)) (lay (zs.take 0)) := ⟨⟨[], by simpa [lay] using hw0, by simp, by simp⟩, by simpa [lay, bools] using Own.nil W0 3 .i64, by simp [foot, Value.ownBlock], hB0, hbw⟩
    clear hw0 hB0
    go_loopw [4, 5] (fun v i wr => ∃ k : Nat, k ≤ n ∧ i = .int .i64 k ∧ State w wr b v (lay (zs.take k)) (lay (zs.take k))) (fun _ i _ => n - (intOf i).toNat)
    case atStart => exact ⟨0, Nat.zero_le _, rfl, hS0⟩
    case round =>
      clear hS0
      obtain ⟨k, hk, rfl, hS⟩ := hrel
      by_cases hlt : k < n
      · obtain ⟨zl, hzc⟩ := hz
        obtain ⟨g, o, rfl, hg, hcell⟩ := hzc (by omega)
        obtain ⟨⟨x, m⟩, hp⟩ : ∃ p, p = zs.getD k (0, 0) := ⟨_, rfl⟩
        have hw1 := (hcell k hlt).1
        have hw2 := (hcell k hlt).2
        rw [← hp] at hw1 hw2
        have hc1 := hS.cell hw1
        have hc2 := hS.cell hw2
        have hL : (lay (zs.take k)).length ≤ 99000 := by
          have h1 := lay_length (zs.take k)
          rw [List.length_take] at h1
          omega
        have hnext := lay_take zs k (by omega)
        rw [← hp] at hnext
        have hSd : State w wr.drew b u4 (lay (zs.take k)) (lay (zs.take k)) := hS.keep (Keep.drew _ _)
        have hput := state_put hSd hL x m ⟨g, o + k * 2, none⟩ ⟨g, o + k * 2 + 1, none⟩ _ _ hw1 hw2
        have HNX := Lib.hid hnext
        have HS := Lib.hid hS
        have HL := Lib.hid hL
        clear hcell hp hSd hnext hS hL hw1 hw2
        by_cases hm : m < 0 ∨ 56 < m
        · have he : putErr x m = 1 := by unfold putErr; rw [if_pos hm]
          rw [putBits_err x m (by rw [he]; decide), List.append_nil] at HNX hput
          rw [he] at hput
          clear he
          rcases hm with hm | hm
          · go_wp2
            go_still_tail 11, (by kernel_rfl)
            change wpList _ _ _ _ _ wr.drew
            generalize wr.drew = wd at *
            clear hc1 hc2
            go_wp2_with (go_at_call 18; (with_reducible refine hput.mono ?_); rintro e w2 ⟨rfl, hd1, hd2, hs2⟩)
            go_roundw
            case rel => exact ⟨k + 1, by omega, by go_num, by rw [HNX.out]; exact hs2.out⟩
            case measure => simp [intOf]; omega
          · have hm0 : ¬ m < 0 := by omega
            go_wp2
            go_still_tail 11, (by kernel_rfl)
            change wpList _ _ _ _ _ wr.drew
            generalize wr.drew = wd at *
            clear hc1 hc2
            go_wp2_with (go_at_call 18; (with_reducible refine hput.mono ?_); rintro e w2 ⟨rfl, hd1, hd2, hs2⟩)
            go_roundw
            case rel => exact ⟨k + 1, by omega, by go_num, by rw [HNX.out]; exact hs2.out⟩
            case measure => simp [intOf]; omega
        · have hm0 : 0 ≤ m := by omega
          have hm56 : m ≤ 56 := by omega
          obtain ⟨N, rfl⟩ := Int.eq_ofNat_of_zero_le hm0
          have hN : N ≤ 56 := by omega
          have hfits := fits_same x N hN
          by_cases hx : 0 ≤ x ∧ x < 2 ^ N
          · have he : putErr x N = 0 := by unfold putErr; rw [if_neg hm, Int.toNat_natCast, if_neg (by omega)]
            have hb : putBits x N = Bits.bitsN x.toNat N := by unfold putBits; rw [if_pos he, Int.toNat_natCast]
            have hfit := hfits true (by rw [decide_eq_true hx])
            rw [hb] at HNX hput
            rw [he] at hput
            obtain ⟨X, rfl⟩ := Int.eq_ofNat_of_zero_le hx.1
            rw [Int.toNat_natCast] at HNX hput
            obtain ⟨LL, hLL⟩ : ∃ LL, LL = lay (zs.take k) ++ Bits.bitsN X N := ⟨_, rfl⟩
            rw [← hLL] at HNX hput
            have HLL := Lib.hid hLL
            have hbl : (bools LL).length = LL.length := bools_length LL
            have hbnd : ((bools (lay (zs.take k))).length + (bools (Bits.bitsN X N)).length) * 8 ≤ 140737488355328 := by
              rw [bools_length, bools_length, Bits.bitsN_length]
              have := HL.out
              omega
            have HBD := Lib.hid hbnd
            clear hLL hbnd
            have hX : X < 72057594037927936 := by
              have h1 : (X : Int) < ((2 ^ N : Nat) : Int) := by rw [Int.natCast_pow]; exact hx.2
              have h2 : 2 ^ N ≤ 2 ^ 56 := Nat.pow_le_pow_right (by decide) hN
              omega
            have hbits := fun W => refBits_is X N hN hX W
            clear he hb hx hm hfits hm0 hm56 hX
            go_wp2
            go_still_tail 11, (by kernel_rfl)
            change wpList _ _ _ _ _ wr.drew
            generalize wr.drew = wd at *
            clear hc1 hc2
            go_wp2_with (go_at_call 18; (with_reducible refine hput.mono ?_); rintro e w2 ⟨rfl, hd1, hd2, hs2⟩)
            go_quiet ((exact Calls.quiet_of_same (hfit _)))
            have hq1 : (w2.drewN nq).cell? ⟨g, o + k * 2, none⟩ = some (.int .i64 (X : Int)) := hd1
            have hq2 : (w2.drewN nq).cell? ⟨g, o + k * 2 + 1, none⟩ = some (.int .i64 (N : Int)) := hd2
            have hs3 : Hid (State w (w2.drewN nq).drew b u4 LL (lay (zs.take k))) := (hs2.out.keep (Keep.drewN _ _ _)).keep (Keep.drew _ _)
            clear hs2 hd1 hd2
            generalize w2.drewN nq = wq at *
            go_wp2
            have hq1d : wq.drew.cell? ⟨g, o + k * 2, none⟩ = some (.int .i64 (X : Int)) := hq1
            have hq2d : wq.drew.cell? ⟨g, o + k * 2 + 1, none⟩ = some (.int .i64 (N : Int)) := hq2
            go_region_law (first | (go_simp; go_at_call 22; (with_reducible refine (hbits _).mono ?_); rintro e w3 ⟨v3, rfl, ho3, hb3, hf3⟩; have HO3 := Lib.hid (hs3.out.own.below hb3)) | (refine step_append_row rfl _ _ 38 3 .i64 8 rfl Try.underlying38 info3 (by decide) u4 v3 (bools (lay (zs.take k))) (bools (Bits.bitsN X N)) rfl rfl HO3.out ho3 HBD.out ?_; intro v5 w5 ho5 hk5 hf5; have hs5 := state_append hs3.out hb3 ho5 hk5 hf5; rw [← HLL.out] at hs5; obtain ⟨a5, c5, rfl⟩ := hs5.own.shape; obtain ⟨F5, hW5, hF5, hd5⟩ := hs5.wr; have HS5 := Lib.hid hs5; clear hs5 ho5 hk5 hf5 hF5 hd5))
            all_goals
              go_wp2_with (go_at_call 20; (with_reducible refine (bits_is _ _ _ _ hW5).mono ?_); rintro e w' ⟨rfl, rfl⟩)
              go_roundw
              case rel => exact ⟨k + 1, by omega, by go_num, by rw [HNX.out]; have h5 := HS5.out; rw [hbl] at h5; exact h5⟩
              case measure => simp [intOf]; omega
          · have he : putErr x N = 7 := by unfold putErr; rw [if_neg hm, Int.toNat_natCast, if_pos (by omega)]
            have hfit := hfits false (by rw [decide_eq_false hx])
            rw [putBits_err x N (by rw [he]; decide), List.append_nil] at HNX hput
            rw [he] at hput
            clear he hx hm hfits hm0 hm56
            go_wp2
            go_still_tail 11, (by kernel_rfl)
            change wpList _ _ _ _ _ wr.drew
            generalize wr.drew = wd at *
            clear hc1 hc2
            go_wp2_with (go_at_call 18; (with_reducible refine hput.mono ?_); rintro e w2 ⟨rfl, hd1, hd2, hs2⟩)
            go_quiet ((exact Calls.quiet_of_same (hfit _)))
            go_wp2
            go_roundw
            case rel => exact ⟨k + 1, by omega, by go_num, by rw [HNX.out]; exact hs2.out.keep (Keep.drewN _ _ _)⟩
            case measure => simp [intOf]; omega
      · obtain rfl : k = n := by omega
        have hall : zs.take k = zs := List.take_of_length_le (by rw [hz.1]; omega)
        rw [hall] at hS
        obtain ⟨F, hW, _, _⟩ := hS.wr
        have hL : (lay zs).length ≤ 100000 := by have := lay_length zs; rw [hz.1] at this; omega
        have hO := hS.own
        have hby := fun W hw => refBytes_is (lay zs) hL u4 W hw
        have hbel := hS.below
        clear hS hL
        go_wp2_with (first | (go_at_call 19; (with_reducible refine (bytes_is _ _ _ _ hW).mono ?_); rintro e w' ⟨rfl, rfl⟩) | (go_at_call 23; (with_reducible refine (on_base (by assumption) (hby _ hO)).mono ?_); rintro e w2 ⟨rfl, hb2⟩))
        go_ret
        exact ⟨rfl, hb2⟩
  · go_enter Try.func6, Try.ntmps6
    go_wp2_with (go_at_call 17; (with_reducible refine (on_base (by assumption) (bitsAwake_is _)).mono ?_); rintro e w1 ⟨rfl, hb1⟩)
    go_ret
    exact ⟨rfl, by assumption⟩
end Go.Proofs.Ythhfogpkaeminaa
