/- A text's words: the walk of sip.Words. -/
import Derived.Test.YthmiomncgkmnoaaDoorSipNum
set_option linter.unusedVariables false
set_option linter.unusedSimpArgs false
namespace Go.Proofs.YthmiomncgkmnoaaDoor
open Go.RowKit Go.Sort Sip
def casts (xs : List Nat) : List Int := xs.map Nat.cast
theorem casts_length (xs : List Nat) : (casts xs).length = xs.length := List.length_map _
theorem casts_snoc (xs : List Nat) (y : Nat) : casts xs ++ [(y : Int)] = casts (xs ++ [y]) := by simp [casts]
theorem casts_get (xs : List Nat) (i : Nat) : (casts xs).getD i 0 = ((xs.getD i 0 : Nat) : Int) := by
  simp only [casts, List.getD_eq_getElem?_getD, List.getElem?_map]
  cases xs[i]? <;> rfl
/-- v is a row of words that the call w0 .. w has made. -/
structure Wo (w0 w : World) (v : Value) (xs : List Nat) : Prop where
  own : Own w 27 .u64 v (casts xs)
  below : Below w0.heap.size w0 w
  news : ∀ j ∈ foot v, w0.heap.size ≤ j
theorem Wo.nil (w : World) : Wo w w (.slice none 0 0) [] := ⟨Own.nil _ _ _, Below.refl _ _, by simp [foot_nil]⟩
theorem Wo.push {w0 w w1 : World} {v : Value} {xs : List Nat} {y g cap : Nat} (h : Wo w0 w v xs)
    (ho : Own w1 27 .u64 (.slice (some ⟨g, 0, none⟩) (casts xs ++ [(y : Int)]).length cap) (casts xs ++ [(y : Int)])) (hk : Keep w w1 (foot v)) (hf : g ∈ foot v ∨ w.heap.size ≤ g) :
    Wo w0 w1 (.slice (some ⟨g, 0, none⟩) ((casts xs).length + 1) cap) (xs ++ [y]) := by
  have e : (casts xs).length + 1 = (casts xs ++ [(y : Int)]).length := by rw [List.length_append]; rfl
  rw [e]
  refine ⟨by rw [← casts_snoc]; exact ho, hk.below h.below h.news, ?_⟩
  intro j hj
  rw [foot_slice, List.mem_singleton] at hj
  subst hj
  rcases hf with h1 | h1
  · exact h.news _ h1
  · have := h.below.size; omega
theorem info27 : (Tryd.prog.info? 27).map (fun i => (i.zero, i.size, i.bytes)) = some (some (.int .u64 0), 1, 8) := by kernel_rfl
theorem bs_extract (s : ByteArray) (i : Nat) : bs (s.extract 0 i) = (bs s).take i := by
  simp [bs, ByteArray.data_extract, List.map_take]
theorem bs_rest (s : ByteArray) (i : Nat) : bs (s.extract i s.size) = (bs s).drop i := by
  have h : s.data.size = s.size := rfl
  simp only [bs, ByteArray.data_extract, Array.toList_extract, List.map_drop]
  rw [List.extract_eq_take_drop, List.map_take, List.map_drop, List.take_of_length_le]
  simp [h]
theorem last_num (y n : Nat) (hy : y < 2 ^ 56) : bits BinOp.or IntKind.u64 (y : Int) (IntKind.u64.wrap ((n : Int) * 72057594037927936)) = ((y + n % 256 * 2 ^ 56 : Nat) : Int) := by
  have e1 : (n : Int) * 72057594037927936 = ((n * 2 ^ 56 : Nat) : Int) := by rw [Int.natCast_mul]; rfl
  have e2 : n * 2 ^ 56 % 2 ^ 64 = n % 256 * 2 ^ 56 := by
    rw [show (2 : Nat) ^ 64 = 2 ^ 8 * 2 ^ 56 from by rw [← Nat.pow_add], Nat.mul_mod_mul_right]
  have h1 : n % 256 * 2 ^ 56 < 2 ^ 64 := by rw [← e2]; exact Nat.mod_lt _ (by decide)
  have h2 : y < 2 ^ 64 := Nat.lt_of_lt_of_le hy (Nat.pow_le_pow_right (by decide) (by decide))
  rw [e1, wrap_u64_nat, e2, or_u64 _ _ h2 h1]
  congr 1
  rw [Nat.or_comm, ← Nat.shiftLeft_eq, ← Nat.shiftLeft_add_eq_or_of_lt hy, Nat.add_comm]
set_option maxRecDepth 100000 in
theorem words_is (s : ByteArray) (hs : s.size ≤ 100000) (w : World) : Calls Tryd.prog 16 #[.string s] w fun e w' => ∃ g cap, e = .returned (.slice (some ⟨g, 0, none⟩) (words (bs s)).length cap) ∧ Wo w w' (.slice (some ⟨g, 0, none⟩) (words (bs s)).length cap) (words (bs s)) := by
  have h0 := Lib.hid (Wo.nil w)
  go_enter Tryd.func16, Tryd.ntmps16
  go_wp2
  go_loopw [0, 3] (fun t o wr => ∃ (k : Nat) (u : ByteArray) , t = .string u ∧ u.size + 8 * k = s.size ∧ Hid (bs u = (bs s).drop (8 * k)) ∧ Hid (Wo w wr o ((List.range k).map fun i => le (((bs s).drop (8 * i)).take 8)))) (fun t _ _ => match t with | .string u => u.size | _ => 0)
  case atStart => exact ⟨0, s, rfl, by omega, Lib.hid (by rw [Nat.mul_zero, List.drop_zero]), h0⟩
  case round =>
    clear h0
    obtain ⟨k, u, rfl, hu, hb, ho⟩ := hrel
    by_cases hlt : 8 ≤ u.size
    · have hn := fun w => number_is (u.extract 0 8) (by simp; omega) w
      rw [bs_extract] at hn
      obtain ⟨y, hy⟩ : ∃ y, y = le ((bs u).take 8) := ⟨_, rfl⟩
      rw [← hy] at hn
      have HY := Lib.hid hy
      have hbnd : ((casts ((List.range k).map fun i => le (((bs s).drop (8 * i)).take 8))).length + 1) * 8 ≤ 140737488355328 := by
        rw [casts_length, List.length_map, List.length_range]; omega
      have HB := Lib.hid hbnd
      clear hy hbnd
      have hO := Lib.hid ho.out.own
      go_wp2_with (first | (go_at_call 42; (with_reducible refine (hn _).mono ?_); rintro e w1 ⟨rfl, hw1⟩; have hw1 := hw1.symm; subst hw1) | (at_builtin; refine append_one rfl _ _ 25 27 .u64 8 rfl Tryd.underlying25 info27 (by decide) u3 (casts ((List.range k).map fun i => le (((bs s).drop (8 * i)).take 8))) (y : Int) rfl rfl hO.out HB.out ?_; intro g3 c3 w3 ho3 hk3 hf3; have hs3 := Lib.hid (ho.out.push ho3 hk3 hf3); clear ho3 hk3 hf3))
      go_roundw
      case rel =>
        refine ⟨k + 1, _, rfl, by simp; omega, Lib.hid ?_, Lib.hid ?_⟩
        · rw [bs_rest, hb.out, List.drop_drop]; congr 1
        · rw [List.range_succ, List.map_append, List.map_singleton, ← hb.out, ← HY.out]
          exact hs3.out
      case measure => simp; omega
    · have hn := fun w => number_is u (by omega) w
      obtain ⟨y, hy⟩ : ∃ y, y = le (bs u) := ⟨_, rfl⟩
      rw [← hy] at hn
      have HY := Lib.hid hy
      obtain ⟨xs, hxs⟩ : ∃ xs, xs = (List.range k).map fun i => le (((bs s).drop (8 * i)).take 8) := ⟨_, rfl⟩
      have hxl : xs.length = k := by rw [hxs, List.length_map, List.length_range]
      have hbnd : ((casts xs).length + 1) * 8 ≤ 140737488355328 := by
        rw [casts_length, hxl]; omega
      have HB := Lib.hid hbnd
      rw [← hxs] at ho
      have HXS := Lib.hid hxs
      have HXL := Lib.hid hxl
      clear hy hbnd hxs hxl
      have hO := Lib.hid ho.out.own
      go_wp2_with (first | (go_at_call 42; (with_reducible refine (hn _).mono ?_); rintro e w1 ⟨rfl, hw1⟩; have hw1 := hw1.symm; subst hw1) | (at_builtin; refine append_one rfl _ _ 25 27 .u64 8 rfl Tryd.underlying25 info27 (by decide) u3 (casts xs) _ rfl rfl hO.out HB.out ?_; intro g3 c3 w3 ho3 hk3 hf3; have HO3 := Lib.hid ho3; clear ho3))
      go_ret
      have ho3 := HO3.out
      have hyl : y < 2 ^ 56 := by
        rw [HY.out]
        refine Nat.lt_of_lt_of_le (le_lt _ (bytes_bs u)) ?_
        rw [p256, bs_length]
        exact Nat.pow_le_pow_right (by decide) (by omega)
      rw [last_num y s.size hyl] at ho3
      have hp := ho.out.push ho3 hk3 hf3
      have hk : k = (bs s).length / 8 := by rw [bs_length]; omega
      have hwd : words (bs s) = xs ++ [y + s.size % 256 * 2 ^ 56] := by
        unfold words
        rw [wordsF_eq, ← hk, HXS.out, HY.out, hb.out, bs_length]
      rw [hwd]
      refine ⟨g3, c3, ?_, ?_⟩
      · rw [List.length_append, List.length_singleton, casts_length]; rfl
      · rw [List.length_append, List.length_singleton, ← casts_length]; exact hp
end Go.Proofs.YthmiomncgkmnoaaDoor
