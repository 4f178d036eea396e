/- The document's words and sum: the walks of Word, Words, Sum. -/
import Derived.Test.YthmiomncgkmnoaaDoorSipRef
set_option linter.unusedVariables false
set_option linter.unusedSimpArgs false
namespace Go.Proofs.YthmiomncgkmnoaaDoor
open Go.RowKit Go.Sort Sip
theorem part_lt (l : List Nat) (h : Bytes l) (p q : Nat) (hq : q ≤ 8) : le ((l.drop p).take q) < 2 ^ 64 := num_lt _ ((h.drop p).take q) (by rw [List.length_take]; omega)
theorem part_in (l : List Nat) (p q : Nat) (hp : p < l.length) : le ((l.drop p).take (q + 1)) = l.getD p 0 + 256 * le ((l.drop (p + 1)).take q) := by
  rw [List.drop_eq_getElem_cons hp, List.take_succ_cons, le, List.getD_eq_getElem?_getD, List.getElem?_eq_getElem hp]; rfl
theorem part_out (l : List Nat) (p q : Nat) (hp : l.length ≤ p) : le ((l.drop p).take q) = 0 := by
  rw [List.drop_of_length_le hp, List.take_nil]; rfl
set_option maxRecDepth 100000 in
theorem word_is (s : ByteArray) (hs : s.size ≤ 100000) (p : Nat) (hp : p ≤ 100000) (w : World) : Calls Tryd.prog 25 #[.string s, .int .i64 p] w fun e w' => e = .returned (.int .u64 (le (((bs s).drop p).take 8) : Nat)) ∧ w' = w := by
  have H0 : Hid (le (((bs s).drop (p + 8)).take 0) = 0) := by show le (((bs s).drop (p + 8)).take 0) = 0; rw [List.take_zero]; rfl
  go_enter Tryd.func25, Tryd.ntmps25
  go_wp2
  go_loop [5, 6] (fun x i => ∃ j : Nat, j ≤ 8 ∧ i = .int .i64 ((j : Int) - 1) ∧ x = .int .u64 (le (((bs s).drop (p + j)).take (8 - j)) : Nat)) (fun _ i => (intOf i + 1).toNat)
  case atStart => exact ⟨8, by omega, rfl, by rw [show 8 - 8 = 0 from rfl, H0.out]; rfl⟩
  case round =>
    clear H0
    obtain ⟨j, hj, rfl, rfl⟩ := hrel
    by_cases h0 : j = 0
    · subst h0
      have e : ((0 : Nat) : Int) - 1 = -1 := by omega
      rw [e, Nat.add_zero, Nat.sub_zero]
      clear e
      go_wp2
      go_ret
      exact ⟨rfl, rfl⟩
    · obtain ⟨i, rfl⟩ : ∃ i, j = i + 1 := ⟨j - 1, by omega⟩
      have e : ((i + 1 : Nat) : Int) - 1 = i := by omega
      rw [e]
      clear e h0
      obtain ⟨X, hX⟩ : ∃ X, X = le (((bs s).drop (p + (i + 1))).take (8 - (i + 1))) := ⟨_, rfl⟩
      have hXl : 256 * X < 2 ^ 64 := by
        have h1 := le_lt _ (((bytes_bs s).drop (p + (i + 1))).take (8 - (i + 1)))
        have h2 : 256 ^ (((bs s).drop (p + (i + 1))).take (8 - (i + 1))).length ≤ 256 ^ 7 := Nat.pow_le_pow_right (by decide) (by rw [List.length_take]; omega)
        rw [← hX] at h1
        have h3 : (256 : Nat) * 256 ^ 7 = 2 ^ 64 := by rw [show (256 : Nat) = 2 ^ 8 from rfl, ← Nat.pow_mul, ← Nat.pow_add]
        rw [← h3]
        exact (Nat.mul_lt_mul_left (by decide)).2 (Nat.lt_of_lt_of_le h1 h2)
      rw [← hX]
      have e1 : IntKind.u64.wrap (256 * (X : Int)) = ((256 * X : Nat) : Int) := by
        rw [show (256 : Int) * (X : Int) = ((256 * X : Nat) : Int) by rw [Int.natCast_mul]; rfl, wrap_u64_nat, Nat.mod_eq_of_lt hXl]
      obtain ⟨Y, hY⟩ : ∃ Y, Y = 256 * X := ⟨_, rfl⟩
      rw [← hY] at e1 hXl
      by_cases hin : p + i < s.size
      · have hst := part_in (bs s) (p + i) (8 - (i + 1)) (by rw [bs_length]; exact hin)
        have hlt := part_lt (bs s) (bytes_bs s) (p + i) (8 - (i + 1) + 1) (by omega)
        have hget : (bs s).getD (p + i) 0 = (s[p + i]'hin).toNat := by
          rw [List.getD_eq_getElem?_getD, List.getElem?_eq_getElem (by rw [bs_length]; exact hin), Option.getD_some, bs_get s _ hin]
        rw [show p + i + 1 = p + (i + 1) by omega, ← hX, ← hY, hget] at hst
        rw [hst] at hlt
        have e2 : IntKind.u64.wrap ((s[p + i]'hin).toNat : Int) = ((s[p + i]'hin).toNat : Int) := by
          have := (s[p + i]'hin).toNat_lt
          exact wraps_u64 _ (by omega) (by omega)
        have e3 : IntKind.u64.wrap ((Y : Int) + ((s[p + i]'hin).toNat : Int)) = (((s[p + i]'hin).toNat + Y : Nat) : Int) := by
          rw [← Int.natCast_add, wrap_u64_nat, Nat.mod_eq_of_lt (by omega), Nat.add_comm]
        rw [← hst] at e3
        have HE := Lib.hid (And.intro e2 e3)
        clear hst hlt hget hX hY hXl e2 e3
        go_wp2
        go_round
        case rel => exact ⟨i, by omega, rfl, by rw [HE.out.1, HE.out.2, show 8 - (i + 1) + 1 = 8 - i by omega]⟩
        case measure => simp [intOf]
      · have hz1 := part_out (bs s) (p + (i + 1)) (8 - (i + 1)) (by rw [bs_length]; omega)
        have hz2 := part_out (bs s) (p + i) (8 - i) (by rw [bs_length]; omega)
        have hz3 : Hid (Y = le (((bs s).drop (p + i)).take (8 - i))) := by show Y = _; rw [hz2, hY, hX, hz1]
        clear hz1 hz2 hX hY hXl
        go_wp2
        go_round
        case rel => exact ⟨i, by omega, rfl, by rw [← hz3.out]⟩
        case measure => simp [intOf]
theorem last_num2 (y n : Nat) (hy : y < 2 ^ 56) : IntKind.u64.wrap ((y : Int) + (n : Int) % 256 * 72057594037927936) = ((y + n % 256 * 2 ^ 56 : Nat) : Int) := by
  have e1 : (y : Int) + (n : Int) % 256 * 72057594037927936 = ((y + n % 256 * 2 ^ 56 : Nat) : Int) := by
    rw [Int.natCast_add, Int.natCast_mul, Int.natCast_emod]; rfl
  have h4 : n % 256 * 2 ^ 56 ≤ 255 * 2 ^ 56 := Nat.mul_le_mul_right _ (by omega)
  have h5 : (255 : Nat) * 2 ^ 56 + 2 ^ 56 = 2 ^ 64 := by decide
  rw [e1, wrap_u64_nat, Nat.mod_eq_of_lt]
  rw [← h5, Nat.add_comm]
  exact Nat.add_lt_add_of_le_of_lt h4 hy
set_option maxRecDepth 100000 in
theorem refWords_is (s : ByteArray) (hs : s.size ≤ 100000) (w : World) : Calls Tryd.prog 17 #[.string s] w fun e w' => ∃ g cap, e = .returned (.slice (some ⟨g, 0, none⟩) (words (bs s)).length cap) ∧ Wo w w' (.slice (some ⟨g, 0, none⟩) (words (bs s)).length cap) (words (bs s)) := by
  have h0 := Lib.hid (Wo.nil w)
  obtain ⟨n, hn⟩ : ∃ n, n = s.size / 8 := ⟨_, rfl⟩
  have hn1 : n ≤ 12500 := by omega
  have hn2 : (s.size : Int) / 8 = n := by omega
  have HN := Lib.hid hn
  clear hn
  go_enter Tryd.func17, Tryd.ntmps17
  go_wp2
  go_loopw [3, 5] (fun o i wr => ∃ k : Nat, k ≤ n ∧ i = .int .i64 k ∧ Hid (Wo w wr o ((List.range k).map fun i => le (((bs s).drop (8 * i)).take 8)))) (fun _ i _ => n - (intOf i).toNat)
  case atStart => exact ⟨0, by omega, rfl, h0⟩
  case round =>
    clear h0
    obtain ⟨k, hk, rfl, ho⟩ := hrel
    have hO := Lib.hid ho.out.own
    by_cases hlt : k < n
    · have hw := fun w => word_is s hs (8 * k) (by omega) w
      obtain ⟨y, hy⟩ : ∃ y, y = le (((bs s).drop (8 * k)).take 8) := ⟨_, rfl⟩
      rw [← hy] at hw
      rw [show ((8 * k : Nat) : Int) = 8 * (k : Int) by omega] at hw
      have hbnd : ((casts ((List.range k).map fun i => le (((bs s).drop (8 * i)).take 8))).length + 1) * 8 ≤ 140737488355328 := by
        rw [casts_length, List.length_map, List.length_range]; omega
      have HB := Lib.hid hbnd
      have HY := Lib.hid hy
      clear hy hbnd
      go_wp2_with (first | (go_at_call 25; (with_reducible refine (hw _).mono ?_); rintro e w1 ⟨rfl, hw1⟩; have hw1 := hw1.symm; subst hw1) | (at_builtin; refine append_one rfl _ _ 25 27 .u64 8 rfl Tryd.underlying25 info27 (by decide) u3 (casts ((List.range k).map fun i => le (((bs s).drop (8 * i)).take 8))) _ rfl rfl hO.out HB.out ?_; intro g3 c3 w3 ho3 hk3 hf3; have hs3 := Lib.hid (ho.out.push ho3 hk3 hf3); clear ho3 hk3 hf3))
      go_roundw
      case rel =>
        refine ⟨k + 1, by omega, by go_num, Lib.hid ?_⟩
        rw [List.range_succ, List.map_append, List.map_singleton, ← HY.out]
        exact hs3.out
      case measure => simp [intOf]; omega
    · obtain rfl : k = n := by omega
      have hw := fun w => word_is s hs (8 * k) (by omega) w
      obtain ⟨y, hy⟩ : ∃ y, y = le (((bs s).drop (8 * k)).take 8) := ⟨_, rfl⟩
      rw [← hy] at hw
      rw [show ((8 * k : Nat) : Int) = 8 * (k : Int) by omega] at hw
      obtain ⟨xs, hxs⟩ : ∃ xs, xs = (List.range k).map fun i => le (((bs s).drop (8 * i)).take 8) := ⟨_, rfl⟩
      have hxl : xs.length = k := by rw [hxs, List.length_map, List.length_range]
      have hbnd : ((casts xs).length + 1) * 8 ≤ 140737488355328 := by
        rw [casts_length, hxl]; omega
      have HB := Lib.hid hbnd
      rw [← hxs] at ho hO
      have HXS := Lib.hid hxs
      have HXL := Lib.hid hxl
      have HY := Lib.hid hy
      clear hy hbnd hxs hxl
      go_wp2_with (first | (go_at_call 25; (with_reducible refine (hw _).mono ?_); rintro e w1 ⟨rfl, hw1⟩; have hw1 := hw1.symm; subst hw1) | (at_builtin; refine append_one rfl _ _ 25 27 .u64 8 rfl Tryd.underlying25 info27 (by decide) u3 (casts xs) _ rfl rfl hO.out HB.out ?_; intro g3 c3 w3 ho3 hk3 hf3; have HO3 := Lib.hid ho3; clear ho3))
      go_ret
      have ho3 := HO3.out
      have htk : ((bs s).drop (8 * k)).take 8 = (bs s).drop (8 * k) := List.take_of_length_le (by rw [List.length_drop, bs_length]; have := HN.out; omega)
      have hyl : y < 2 ^ 56 := by
        rw [HY.out, htk]
        refine Nat.lt_of_lt_of_le (le_lt _ ((bytes_bs s).drop _)) ?_
        rw [p256, List.length_drop, bs_length]
        exact Nat.pow_le_pow_right (by decide) (by have := HN.out; omega)
      rw [last_num2 y s.size hyl] at ho3
      have hp := ho.out.push ho3 hk3 hf3
      have hk : k = (bs s).length / 8 := by rw [bs_length]; exact HN.out
      have hwd : words (bs s) = xs ++ [y + s.size % 256 * 2 ^ 56] := by
        unfold words
        rw [wordsF_eq, ← hk, HXS.out, HY.out, htk, bs_length]
      rw [hwd]
      refine ⟨g3, c3, ?_, ?_⟩
      · rw [List.length_append, List.length_singleton, casts_length]; rfl
      · rw [List.length_append, List.length_singleton, ← casts_length]; exact hp
/-- Block b holds the four words v, as the document keeps them. -/
def St5 (w : World) (b : Nat) (v : Four) : Prop := w.heap[b]? = some (.cells (cells4 v) 35 (0, 0))
theorem St5.cell {w : World} {b : Nat} {v : Four} (h : St5 w b v) (i : Nat) : w.cell? ⟨b, i, none⟩ = (cells4 v)[i]? := cell_of_row w b i _ 35 (0, 0) h
theorem St5.free {w : World} {b : Nat} {v : Four} (h : St5 w b v) (i : Nat) : w.frozen? ⟨b, i, none⟩ = false := frozen_of_row w b i _ 35 h
theorem St5.set {w : World} {b : Nat} {v : Four} (h : St5 w b v) (i : Nat) (x : Value) (u : Four) (hu : (cells4 v).setIfInBounds i x = cells4 u) : St5 (w.setCell ⟨b, i, none⟩ x) b u := by
  have := heap_setCell_same w b i _ 35 x h
  rw [hu] at this
  exact this
theorem St5.lt {w : World} {b : Nat} {v : Four} (h : St5 w b v) : b < w.heap.size := (Array.getElem?_eq_some_iff.1 h).1
theorem St5.below {w w' : World} {b : Nat} {v : Four} (h : St5 w b v) (hb : Below w.heap.size w w') : St5 w' b v := by
  unfold St5; rw [hb.block b h.lt]; exact h
theorem St5.drewN {w : World} {b : Nat} {v : Four} (h : St5 w b v) (k : Nat) : St5 (w.drewN k) b v := h
theorem St5.all {w : World} {b : Nat} {v : Four} (h : St5 w b v) (u : Four) :
    St5 ((((w.setCell ⟨b, 0, none⟩ (.int .u64 u.a)).setCell ⟨b, 1, none⟩ (.int .u64 u.b)).setCell ⟨b, 2, none⟩ (.int .u64 u.c)).setCell ⟨b, 3, none⟩ (.int .u64 u.d)) b u :=
  (((h.set 0 _ ⟨u.a, v.b, v.c, v.d⟩ rfl).set 1 _ ⟨u.a, u.b, v.c, v.d⟩ rfl).set 2 _ ⟨u.a, u.b, u.c, v.d⟩ rfl).set 3 _ u rfl
theorem Keep.all (w : World) (b : Nat) (u : Four) : Keep w ((((w.setCell ⟨b, 0, none⟩ (.int .u64 u.a)).setCell ⟨b, 1, none⟩ (.int .u64 u.b)).setCell ⟨b, 2, none⟩ (.int .u64 u.c)).setCell ⟨b, 3, none⟩ (.int .u64 u.d)) [b] :=
  ((Keep.setCell w ⟨b, 0, none⟩ _ [b] (by simp)).trans (Keep.setCell _ ⟨b, 1, none⟩ _ [b] (by simp))).trans ((Keep.setCell _ ⟨b, 2, none⟩ _ [b] (by simp)).trans (Keep.setCell _ ⟨b, 3, none⟩ _ [b] (by simp)))
set_option maxRecDepth 100000 in
theorem refSum_is (kl : List Nat) (hk : kl.length = 16) (hb : Bytes kl) (s : ByteArray) (hs : s.size ≤ 100000) (w : World) :
    Calls Tryd.prog 19 #[.agg (keyV kl), .string s] w fun e w' => e = .returned (.int .u64 (sumW (le (kl.take 8)) (le (kl.drop 8)) (words (bs s)) : Nat)) ∧ Below w.heap.size w w' := by
  have hwd := refWords_is s hs
  obtain ⟨ws, hws⟩ : ∃ ws, ws = words (bs s) := ⟨_, rfl⟩
  have HW64 : Hid (W64 ws) := by show W64 ws; rw [hws]; exact words_64 _ (bytes_bs s)
  have HWL : Hid (ws.length ≤ 20000) := by
    show ws.length ≤ 20000
    rw [hws, words_length, bs_length]; omega
  rw [← hws] at hwd
  rw [← hws]
  clear hws
  obtain ⟨a, ha⟩ : ∃ a, a = le (kl.take 8) := ⟨_, rfl⟩
  obtain ⟨b, hbb⟩ : ∃ b, b = le (kl.drop 8) := ⟨_, rfl⟩
  have hal : a < 2 ^ 64 := by rw [ha]; exact num_lt _ (hb.take 8) (by rw [List.length_take]; omega)
  have hbl : b < 2 ^ 64 := by rw [hbb]; exact num_lt _ (hb.drop 8) (by rw [List.length_drop]; omega)
  obtain ⟨S1, hS1⟩ : ∃ S, S = strOfNums (kl.map Nat.cast) := ⟨_, rfl⟩
  have hsz : S1.size = 16 := by rw [hS1, str_size _ hb, hk]
  have n1 := fun w => word_is S1 (by omega) 0 (by omega) w
  have n2 := fun w => word_is S1 (by omega) 8 (by omega) w
  rw [show bs S1 = kl by rw [hS1]; exact bs_strOfNums _ hb] at n1 n2
  rw [List.drop_zero, ← ha, show ((0 : Nat) : Int) = 0 from rfl] at n1
  rw [List.take_of_length_le (by rw [List.length_drop]; omega), ← hbb, show ((8 : Nat) : Int) = 8 from rfl] at n2
  obtain ⟨B, hB⟩ : ∃ B, B = w.heap.size := ⟨_, rfl⟩
  have hc : ∀ i, i < kl.length → (w.alloc (.cells (keyV kl) 23)).cell? ⟨B, i, none⟩ = some (.int .u8 (kl.getD i 0 : Nat)) := fun i hi => by
    rw [← keyV_get kl i hi, hB]
    exact cell_of_row _ _ _ _ 23 (0, 0) (heap_alloc_new w _)
  have c1 : (convert 33 9 (.slice (some ⟨B, 0, none⟩) 16 16)).run Tryd.prog (w.alloc (.cells (keyV kl) 23)) = .ok (.string S1) (w.alloc (.cells (keyV kl) 23)) := by
    have := conv_part kl 0 16 16 (by omega) (w.alloc (.cells (keyV kl) 23)) B hc
    rw [List.drop_zero, List.take_of_length_le (by omega), ← hS1] at this
    exact this
  obtain ⟨V, hV⟩ : ∃ V, V = start4 a b := ⟨_, rfl⟩
  have x0 : bits BinOp.xor .u64 (a : Int) 8317987319222330741 = (V.a : Int) := by rw [hV]; exact xor_u64 a 8317987319222330741 hal (by decide)
  have x1 : bits BinOp.xor .u64 (b : Int) 7237128888997146477 = (V.b : Int) := by rw [hV]; exact xor_u64 b 7237128888997146477 hbl (by decide)
  have x2 : bits BinOp.xor .u64 (a : Int) 7816392313619706465 = (V.c : Int) := by rw [hV]; exact xor_u64 a 7816392313619706465 hal (by decide)
  have x3 : bits BinOp.xor .u64 (b : Int) 8387220255154660723 = (V.d : Int) := by rw [hV]; exact xor_u64 b 8387220255154660723 hbl (by decide)
  have HV := Lib.hid hV
  have HVO := Lib.hid (show V.Ok by rw [hV]; exact start4_ok hal hbl)
  rw [← ha, ← hbb]
  obtain ⟨W3, hW3⟩ : ∃ W3, W3 = (w.alloc (.cells (keyV kl) 23)).alloc (.cells (cells4 V) 35) := ⟨_, rfl⟩
  have HS3 : Hid (St5 W3 (B + 1) V) := by
    show St5 W3 (B + 1) V
    have := heap_alloc_new (w.alloc (.cells (keyV kl) 23)) (.cells (cells4 V) 35)
    rw [World.size_alloc] at this
    rw [hW3, hB]; exact this
  have HB3 : Hid (Below w.heap.size w W3) := by show Below w.heap.size w W3; rw [hW3]; exact ((Below.refl _ _).alloc (Nat.le_refl _) _).alloc (by simp) _
  have HL3 : Hid (B + 1 < W3.heap.size ∧ w.heap.size ≤ B + 1) := by
    show B + 1 < W3.heap.size ∧ w.heap.size ≤ B + 1
    rw [hW3, hB]; exact ⟨by simp, by omega⟩
  have HW3 := Lib.hid hW3
  have hB' := hB.symm
  clear ha hbb hS1 hc hB hW3 hV hal hbl hsz hk hb
  go_enter Tryd.func19, Tryd.ntmps19
  go_wp2_with (first | (go_at_call 25; (with_reducible refine (n1 _).mono ?_); rintro e w1 ⟨rfl, hw1⟩; have hw1 := hw1.symm; subst hw1) | (go_at_call 25; (with_reducible refine (n2 _).mono ?_); rintro e w1 ⟨rfl, hw1⟩; have hw1 := hw1.symm; subst hw1))
  rw [show (w.alloc (.cells (keyV kl) 23)).alloc (.cells #[.int .u64 V.a, .int .u64 V.b, .int .u64 V.c, .int .u64 V.d] 35) = W3 from HW3.out.symm]
  clear x0 x1 x2 x3 c1 n1 n2 HW3 hB'
  generalize B + 1 = B3 at *
  (with_reducible refine (hwd _).mono ?_); rintro e w3 ⟨g, cap, rfl, hwo⟩
  have hS0 : Hid (St5 w3 B3 V) := HS3.out.below hwo.below
  have hK0 : Hid (Keep w3 w3 [B3]) := Keep.refl _ _
  have hG : Hid (B3 ≠ g ∧ Below w.heap.size w w3) := by
    show B3 ≠ g ∧ Below w.heap.size w w3
    have h1 := HL3.out.1
    have h2 := hwo.news g (by rw [foot_slice]; simp)
    exact ⟨by omega, HB3.out.trans (hwo.below.mono HB3.out.size)⟩
  have HWO := Lib.hid hwo
  clear hwo hwd HS3 HB3
  go_wp2_with fail
  obtain ⟨n, hn⟩ : ∃ n, n = ws.length := ⟨_, rfl⟩
  have hnl : n ≤ 20000 := by rw [hn]; exact HWL.out
  rw [← hn]
  rw [← hn] at HWO
  have HN := Lib.hid hn
  clear hn HWL
  go_loopw [10] (fun i wr => ∃ k : Nat, k ≤ n ∧ i = .int .i64 k ∧ Hid (St5 wr B3 ((ws.take k).foldl take1 V)) ∧ Hid (Keep w3 wr [B3])) (fun i _ => n - (intOf i).toNat)
  case atStart => exact ⟨0, Nat.zero_le _, rfl, hS0, hK0⟩
  case round =>
    clear hS0 hK0
    obtain ⟨k, hk, rfl, hS, hK⟩ := hrel
    by_cases hlt : k < n
    · have hfold := fold_take ws V k (by rw [← HN.out]; exact hlt)
      obtain ⟨X, hX⟩ : ∃ X, X = ws.getD k 0 := ⟨_, rfl⟩
      have hcell : ∀ wx, Keep w3 wx [B3] → wx.cell? ⟨g, k, none⟩ = some (.int .u64 (X : Nat)) := fun wx hKx => by
        have hl : g < w3.heap.size := HWO.out.own.lt g (by rw [foot_slice]; simp)
        have h1 : wx.heap[g]? = w3.heap[g]? := hKx.block g hl (by simpa using fun e => hG.out.1 e.symm)
        rw [World.cell?_of_block h1]
        have h2 := HWO.out.own
        rw [HN.out, ← casts_length] at h2
        rw [Own.at_ h2 k (by rw [casts_length, ← HN.out]; exact hlt), casts_get, hX]
      have hXl : X < 2 ^ 64 := by
        rw [hX, List.getD_eq_getElem?_getD, List.getElem?_eq_getElem (by rw [← HN.out]; exact hlt)]
        exact HW64.out _ (List.getElem_mem _)
      rw [← hX] at hfold
      have hVo : ((ws.take k).foldl take1 V).Ok := fold_ok _ HVO.out fun y hy => HW64.out y (List.mem_of_mem_take hy)
      obtain ⟨U, hU⟩ : ∃ U, U = (ws.take k).foldl take1 V := ⟨_, rfl⟩
      rw [← hU] at hfold hVo hS
      have hc := hcell wr hK.out
      have c3 : wr.cell? ⟨B3, 3, none⟩ = some (.int .u64 (U.d : Nat)) := hS.out.cell 3
      have f3 : wr.frozen? ⟨B3, 3, none⟩ = false := hS.out.free 3
      have hx := xor_u64 U.d X hVo.2.2.2 hXl
      obtain ⟨U1, hU1⟩ : ∃ U1, U1 = xd U X := ⟨_, rfl⟩
      have ho1 : U1.Ok := by rw [hU1]; exact xd_ok hVo hXl
      obtain ⟨U2, hU2⟩ : ∃ U2, U2 = round U1 := ⟨_, rfl⟩
      have ho2 : U2.Ok := by rw [hU2]; exact round_ok ho1
      obtain ⟨U3, hU3⟩ : ∃ U3, U3 = round U2 := ⟨_, rfl⟩
      have ho3 : U3.Ok := by rw [hU3]; exact round_ok ho2
      have hr1 : ∀ w, Calls Tryd.prog 23 #[.agg #[.int .u64 U1.a, .int .u64 U1.b, .int .u64 U1.c, .int .u64 U1.d]] w fun e w' => e = .returned (.agg #[.int .u64 U2.a, .int .u64 U2.b, .int .u64 U2.c, .int .u64 U2.d]) ∧ Below w.heap.size w w' := fun w => by rw [hU2]; exact refRound_is U1 ho1 w
      have hr2 : ∀ w, Calls Tryd.prog 23 #[.agg #[.int .u64 U2.a, .int .u64 U2.b, .int .u64 U2.c, .int .u64 U2.d]] w fun e w' => e = .returned (.agg #[.int .u64 U3.a, .int .u64 U3.b, .int .u64 U3.c, .int .u64 U3.d]) ∧ Below w.heap.size w w' := fun w => by rw [hU3]; exact refRound_is U2 ho2 w
      have HF : Hid ((ws.take (k + 1)).foldl take1 V = xa U3 X) := by show (ws.take (k + 1)).foldl take1 V = xa U3 X; rw [hfold, hU3, hU2, hU1]; rfl
      have hS4 : ∀ nq, Hid (St5 ((wr.drewN nq).setCell ⟨B3, 3, none⟩ (.int .u64 (U.d ^^^ X : Nat))) B3 U1) := fun nq => by
        show St5 _ B3 U1
        rw [hU1]; exact (hS.out.drewN nq).set 3 _ _ rfl
      have hK4 : ∀ nq, Hid (Keep w3 ((wr.drewN nq).setCell ⟨B3, 3, none⟩ (.int .u64 (U.d ^^^ X : Nat))) [B3]) := fun nq => (hK.out.trans (Keep.drewN _ _ _)).trans (Keep.setCell _ ⟨B3, 3, none⟩ _ [B3] (by simp))
      have HXL := Lib.hid hXl
      have HO3 := Lib.hid ho3
      have HCELL := Lib.hid hcell
      clear hX hU hfold hVo hXl hU1 ho1 hU2 ho2 hU3 ho3 hcell
      go_wp2_with fail
      refine wp_region_quiet_tail 8 (by kernel_rfl) (by kernel_rfl) ?_
      simp only [List.take_succ_cons, List.take_zero, List.drop_succ_cons, List.drop_zero]
      repeat (go_big_quiet_step (fail))
      refine wpQuiet_nil ?_
      intro _ hw'
      obtain ⟨nq, hw''⟩ := hw'
      subst hw''
      have hs4 := hS4 nq
      have hk4 := hK4 nq
      clear hS4 hK4
      go_upto_region 9 with (fail)
      generalize (wr.drewN nq).setCell ⟨B3, 3, none⟩ (.int .u64 (U.d ^^^ X : Nat)) = W4 at *
      have p0 : W4.cell? ⟨B3, 0, none⟩ = some (.int .u64 (U1.a : Nat)) := hs4.out.cell 0
      have p1 : W4.cell? ⟨B3, 1, none⟩ = some (.int .u64 (U1.b : Nat)) := hs4.out.cell 1
      have p2 : W4.cell? ⟨B3, 2, none⟩ = some (.int .u64 (U1.c : Nat)) := hs4.out.cell 2
      have p3 : W4.cell? ⟨B3, 3, none⟩ = some (.int .u64 (U1.d : Nat)) := hs4.out.cell 3
      clear c3 f3 hx hc
      go_wp2_with fail
      (with_reducible refine (hr1 _).mono ?_); rintro e w5 ⟨rfl, hb5⟩
      have HB5 := Lib.hid hb5
      clear hb5
      go_wp2_with fail
      (with_reducible refine (hr2 _).mono ?_); rintro e w6 ⟨rfl, hb6⟩
      have hs6 : St5 w6 B3 U1 := (hs4.out.below HB5.out).below hb6
      have hk6 : Hid (Keep w3 w6 [B3]) := (hk4.out.trans (Keep.of_below HB5.out _)).trans (Keep.of_below hb6 _)
      have q0 : w6.cell? ⟨B3, 0, none⟩ = some (.int .u64 (U1.a : Nat)) := hs6.cell 0
      have q1 : w6.cell? ⟨B3, 1, none⟩ = some (.int .u64 (U1.b : Nat)) := hs6.cell 1
      have q2 : w6.cell? ⟨B3, 2, none⟩ = some (.int .u64 (U1.c : Nat)) := hs6.cell 2
      have q3 : w6.cell? ⟨B3, 3, none⟩ = some (.int .u64 (U1.d : Nat)) := hs6.cell 3
      have qf0 : w6.frozen? ⟨B3, 0, none⟩ = false := hs6.free 0
      have qf1 : w6.frozen? ⟨B3, 1, none⟩ = false := hs6.free 1
      have qf2 : w6.frozen? ⟨B3, 2, none⟩ = false := hs6.free 2
      have qf3 : w6.frozen? ⟨B3, 3, none⟩ = false := hs6.free 3
      have hs7 := Lib.hid (hs6.all U3)
      have hk7 := Lib.hid (hk6.out.trans (Keep.all w6 B3 U3))
      clear p0 p1 p2 p3 hb6 hs6 hr1 hr2
      go_upto_region 10 with (fail)
      generalize (((w6.setCell ⟨B3, 0, none⟩ (.int .u64 U3.a)).setCell ⟨B3, 1, none⟩ (.int .u64 U3.b)).setCell ⟨B3, 2, none⟩ (.int .u64 U3.c)).setCell ⟨B3, 3, none⟩ (.int .u64 U3.d) = W7 at *
      clear q0 q1 q2 q3 qf0 qf1 qf2 qf3
      have hc := HCELL.out W7 hk7.out
      have r0 : W7.cell? ⟨B3, 0, none⟩ = some (.int .u64 (U3.a : Nat)) := hs7.out.cell 0
      have rf0 : W7.frozen? ⟨B3, 0, none⟩ = false := hs7.out.free 0
      have hx := xor_u64 U3.a X HO3.out.1 HXL.out
      refine wp_region_quiet_tail 8 (by kernel_rfl) (by kernel_rfl) ?_
      simp only [List.take_succ_cons, List.take_zero, List.drop_succ_cons, List.drop_zero]
      repeat (go_big_quiet_step (fail))
      refine wpQuiet_nil ?_
      intro _ hw'
      obtain ⟨nr, hw''⟩ := hw'
      subst hw''
      have hS8 : Hid (St5 ((W7.drewN nr).setCell ⟨B3, 0, none⟩ (.int .u64 (U3.a ^^^ X : Nat))) B3 ((ws.take (k + 1)).foldl take1 V)) := by
        show St5 _ B3 _
        rw [HF.out]; exact (hs7.out.drewN nr).set 0 _ _ rfl
      have hK8 : Hid (Keep w3 ((W7.drewN nr).setCell ⟨B3, 0, none⟩ (.int .u64 (U3.a ^^^ X : Nat))) [B3]) := (hk7.out.trans (Keep.drewN _ _ _)).trans (Keep.setCell _ ⟨B3, 0, none⟩ _ [B3] (by simp))
      clear HF hc
      go_wp2_with fail
      go_roundw
      case rel => exact ⟨k + 1, by omega, by go_num, hS8, hK8⟩
      case measure => simp [intOf]; omega
    · obtain rfl : k = n := by omega
      rw [List.take_of_length_le (by rw [HN.out]; exact Nat.le_refl _)] at hS
      obtain ⟨U, hU⟩ : ∃ U, U = ws.foldl take1 V := ⟨_, rfl⟩
      have hok : U.Ok := by rw [hU]; exact fold_ok _ HVO.out HW64.out
      rw [← hU] at hS
      have c2 : wr.cell? ⟨B3, 2, none⟩ = some (.int .u64 (U.c : Nat)) := hS.out.cell 2
      have f2 : wr.frozen? ⟨B3, 2, none⟩ = false := hS.out.free 2
      have hx : bits BinOp.xor .u64 (U.c : Int) 255 = ((U.c ^^^ 255 : Nat) : Int) := xor_u64 U.c 255 hok.2.2.1 (by decide)
      obtain ⟨U0, hU0⟩ : ∃ U0, U0 = xc U 255 := ⟨_, rfl⟩
      have ho0 : U0.Ok := by rw [hU0]; exact xc_ok hok (by decide)
      obtain ⟨U1, hU1⟩ : ∃ U1, U1 = round U0 := ⟨_, rfl⟩
      have ho1 : U1.Ok := by rw [hU1]; exact round_ok ho0
      obtain ⟨U2, hU2⟩ : ∃ U2, U2 = round U1 := ⟨_, rfl⟩
      have ho2 : U2.Ok := by rw [hU2]; exact round_ok ho1
      obtain ⟨U3, hU3⟩ : ∃ U3, U3 = round U2 := ⟨_, rfl⟩
      have ho3 : U3.Ok := by rw [hU3]; exact round_ok ho2
      obtain ⟨U4, hU4⟩ : ∃ U4, U4 = round U3 := ⟨_, rfl⟩
      have ho4 : U4.Ok := by rw [hU4]; exact round_ok ho3
      have hR : Hid (sumW a b ws = all4 U4) := by show sumW a b ws = _; rw [hU4, hU3, hU2, hU1, hU0, hU, HV.out]; rfl
      have hr0 : ∀ w, Calls Tryd.prog 23 #[.agg #[.int .u64 U0.a, .int .u64 U0.b, .int .u64 U0.c, .int .u64 U0.d]] w fun e w' => e = .returned (.agg #[.int .u64 U1.a, .int .u64 U1.b, .int .u64 U1.c, .int .u64 U1.d]) ∧ Below w.heap.size w w' := fun w => by rw [hU1]; exact refRound_is U0 ho0 w
      have hr1 : ∀ w, Calls Tryd.prog 23 #[.agg #[.int .u64 U1.a, .int .u64 U1.b, .int .u64 U1.c, .int .u64 U1.d]] w fun e w' => e = .returned (.agg #[.int .u64 U2.a, .int .u64 U2.b, .int .u64 U2.c, .int .u64 U2.d]) ∧ Below w.heap.size w w' := fun w => by rw [hU2]; exact refRound_is U1 ho1 w
      have hr2 : ∀ w, Calls Tryd.prog 23 #[.agg #[.int .u64 U2.a, .int .u64 U2.b, .int .u64 U2.c, .int .u64 U2.d]] w fun e w' => e = .returned (.agg #[.int .u64 U3.a, .int .u64 U3.b, .int .u64 U3.c, .int .u64 U3.d]) ∧ Below w.heap.size w w' := fun w => by rw [hU3]; exact refRound_is U2 ho2 w
      have hr3 : ∀ w, Calls Tryd.prog 23 #[.agg #[.int .u64 U3.a, .int .u64 U3.b, .int .u64 U3.c, .int .u64 U3.d]] w fun e w' => e = .returned (.agg #[.int .u64 U4.a, .int .u64 U4.b, .int .u64 U4.c, .int .u64 U4.d]) ∧ Below w.heap.size w w' := fun w => by rw [hU4]; exact refRound_is U3 ho3 w
      have hS4 : Hid (St5 (wr.setCell ⟨B3, 2, none⟩ (.int .u64 (U.c ^^^ 255 : Nat))) B3 U0) := by show St5 _ B3 U0; rw [hU0]; exact hS.out.set 2 _ _ rfl
      have hK4 : Hid (Keep w3 (wr.setCell ⟨B3, 2, none⟩ (.int .u64 (U.c ^^^ 255 : Nat))) [B3]) := hK.out.trans (Keep.setCell _ ⟨B3, 2, none⟩ _ [B3] (by simp))
      have HO4 := Lib.hid ho4
      clear hU hok hU0 ho0 hU1 ho1 hU2 ho2 hU3 ho3 hU4 ho4
      go_upto_region 12 with (fail)
      generalize wr.setCell ⟨B3, 2, none⟩ (.int .u64 (U.c ^^^ 255 : Nat)) = W4 at *
      clear c2 f2 hx
      have p0 : W4.cell? ⟨B3, 0, none⟩ = some (.int .u64 (U0.a : Nat)) := hS4.out.cell 0
      have p1 : W4.cell? ⟨B3, 1, none⟩ = some (.int .u64 (U0.b : Nat)) := hS4.out.cell 1
      have p2 : W4.cell? ⟨B3, 2, none⟩ = some (.int .u64 (U0.c : Nat)) := hS4.out.cell 2
      have p3 : W4.cell? ⟨B3, 3, none⟩ = some (.int .u64 (U0.d : Nat)) := hS4.out.cell 3
      go_wp2_with fail
      (with_reducible refine (hr0 _).mono ?_); rintro e w5 ⟨rfl, hb5⟩
      have HB5 := Lib.hid hb5
      clear hb5
      go_wp2_with fail
      (with_reducible refine (hr1 _).mono ?_); rintro e w6 ⟨rfl, hb6⟩
      have HB6 := Lib.hid hb6
      clear hb6
      go_wp2_with fail
      (with_reducible refine (hr2 _).mono ?_); rintro e w7 ⟨rfl, hb7⟩
      have HB7 := Lib.hid hb7
      clear hb7
      go_wp2_with fail
      (with_reducible refine (hr3 _).mono ?_); rintro e w8 ⟨rfl, hb8⟩
      have hs8 : St5 w8 B3 U0 := (((hS4.out.below HB5.out).below HB6.out).below HB7.out).below hb8
      have hk8 : Hid (Keep w3 w8 [B3]) := (((hK4.out.trans (Keep.of_below HB5.out _)).trans (Keep.of_below HB6.out _)).trans (Keep.of_below HB7.out _)).trans (Keep.of_below hb8 _)
      have q0 : w8.cell? ⟨B3, 0, none⟩ = some (.int .u64 (U0.a : Nat)) := hs8.cell 0
      have q1 : w8.cell? ⟨B3, 1, none⟩ = some (.int .u64 (U0.b : Nat)) := hs8.cell 1
      have q2 : w8.cell? ⟨B3, 2, none⟩ = some (.int .u64 (U0.c : Nat)) := hs8.cell 2
      have q3 : w8.cell? ⟨B3, 3, none⟩ = some (.int .u64 (U0.d : Nat)) := hs8.cell 3
      have qf0 : w8.frozen? ⟨B3, 0, none⟩ = false := hs8.free 0
      have qf1 : w8.frozen? ⟨B3, 1, none⟩ = false := hs8.free 1
      have qf2 : w8.frozen? ⟨B3, 2, none⟩ = false := hs8.free 2
      have qf3 : w8.frozen? ⟨B3, 3, none⟩ = false := hs8.free 3
      have hs9 := Lib.hid (hs8.all U4)
      have hk9 := Lib.hid (hk8.out.trans (Keep.all w8 B3 U4))
      clear p0 p1 p2 p3 hb8 hs8 hr0 hr1 hr2 hr3
      go_upto_region 13 with (fail)
      generalize (((w8.setCell ⟨B3, 0, none⟩ (.int .u64 U4.a)).setCell ⟨B3, 1, none⟩ (.int .u64 U4.b)).setCell ⟨B3, 2, none⟩ (.int .u64 U4.c)).setCell ⟨B3, 3, none⟩ (.int .u64 U4.d) = W9 at *
      clear q0 q1 q2 q3 qf0 qf1 qf2 qf3
      have r0 : W9.cell? ⟨B3, 0, none⟩ = some (.int .u64 (U4.a : Nat)) := hs9.out.cell 0
      have r1 : W9.cell? ⟨B3, 1, none⟩ = some (.int .u64 (U4.b : Nat)) := hs9.out.cell 1
      have r2 : W9.cell? ⟨B3, 2, none⟩ = some (.int .u64 (U4.c : Nat)) := hs9.out.cell 2
      have r3 : W9.cell? ⟨B3, 3, none⟩ = some (.int .u64 (U4.d : Nat)) := hs9.out.cell 3
      have hok5 := HO4.out
      have y1 := xor_u64 U4.a U4.b hok5.1 hok5.2.1
      have y2 := xor_u64 (U4.a ^^^ U4.b) U4.c (Sip.xor_lt _ _ hok5.1 hok5.2.1) hok5.2.2.1
      have y3 := xor_u64 (U4.a ^^^ U4.b ^^^ U4.c) U4.d (Sip.xor_lt _ _ (Sip.xor_lt _ _ hok5.1 hok5.2.1) hok5.2.2.1) hok5.2.2.2
      have HB5 : Hid (Below w.heap.size w W9) := by
        show Below w.heap.size w W9
        refine hk9.out.below hG.out.2 (fun j hj => ?_)
        rw [List.mem_singleton] at hj
        subst hj
        exact HL3.out.2
      clear hok5
      go_wp2_with fail
      go_ret
      rw [hR.out]
      exact ⟨rfl, HB5.out⟩
end Go.Proofs.YthmiomncgkmnoaaDoor
