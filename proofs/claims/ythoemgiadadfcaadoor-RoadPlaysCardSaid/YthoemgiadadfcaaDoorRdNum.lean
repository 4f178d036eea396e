/- A number as it is written: the walk. -/
import Derived.Test.YthoemgiadadfcaaDoorRdDec
import Derived.Test.YthoemgiadadfcaaDoorShelf
set_option linter.unusedVariables false
set_option linter.unusedSimpArgs false
namespace Go.Proofs.YthoemgiadadfcaaDoor
open Go.RowKit Go.Sort Rd
namespace Rd
def dig (c : UInt8) : Prop := 48 ≤ c.toNat ∧ c.toNat ≤ 57
instance (c : UInt8) : Decidable (dig c) := by unfold dig; infer_instance
def valL (d : List UInt8) : Nat := d.foldl (fun n c => 10 * n + (c.toNat - 48)) 0
def trimM (l : List UInt8) : List UInt8 := Lib.trimPrefix l [45]
def numD (l : List UInt8) : Prop := trimM l ≠ [] ∧ (trimM l).length ≤ 18 ∧ ∀ c ∈ trimM l, dig c
instance (l : List UInt8) : Decidable (numD l) := by unfold numD; infer_instance
def numV (l : List UInt8) : Int := if trimM l = l then valL (trimM l) else -(valL (trimM l) : Int)
def numP (l : List UInt8) : Int × Bool := if numD l then (numV l, decide (decI (numV l) = l)) else (0, false)
theorem valL_snoc (d : List UInt8) (c : UInt8) : valL (d ++ [c]) = 10 * valL d + (c.toNat - 48) := by
  unfold valL; rw [List.foldl_append]; rfl
theorem valL_acc : ∀ (d : List UInt8) (a : Nat), (∀ c ∈ d, dig c) → d.foldl (fun n c => 10 * n + (c.toNat - 48)) a + 1 ≤ (a + 1) * 10 ^ d.length
  | [], a, _ => by simp
  | c :: d, a, h => by
    rw [List.foldl_cons, List.length_cons, Nat.pow_succ]
    have h1 := valL_acc d (10 * a + (c.toNat - 48)) (fun x hx => h x (List.mem_cons_of_mem _ hx))
    have h2 := h c (by simp)
    unfold dig at h2
    refine Nat.le_trans h1 ?_
    rw [Nat.mul_comm (10 ^ d.length) 10, ← Nat.mul_assoc]
    exact Nat.mul_le_mul_right _ (by omega)
theorem valL_lt (d : List UInt8) (h : ∀ c ∈ d, dig c) : valL d < 10 ^ d.length := by
  have := valL_acc d 0 h
  unfold valL
  omega
end Rd
theorem trim_is2 (s : ByteArray) (w : World) : Calls Tryd.prog 47 #[.string s, .string ⟨#[45]⟩] w fun e w' => e = .returned (.string (str (trimM s.data.toList))) ∧ w' = w := Tryd.strings_TrimPrefix s ⟨#[45]⟩ w
set_option maxRecDepth 100000 in
set_option maxHeartbeats 1600000 in
theorem number_is (s : ByteArray) (w : World) (hs : s.size ≤ 100000) : Calls Tryd.prog 39 #[.string s] w fun e w' => e = .returned (.tuple #[.int .i64 (numP s.data.toList).1, .bool (numP s.data.toList).2]) ∧ Below w.heap.size w w' := by
  obtain ⟨l, hl⟩ : ∃ l, l = s.data.toList := ⟨_, rfl⟩
  obtain ⟨D, hD⟩ : ∃ D, D = str (trimM l) := ⟨_, rfl⟩
  have hq := trim_is2 s w
  rw [← hl, ← hD] at hq
  have hDl : D.data.toList = trimM l := by rw [hD]; rfl
  have hsz : D.size = (trimM l).length := by rw [hD, str_size]
  have HL := Lib.hid hl
  have HD := Lib.hid hDl
  have HSZ := Lib.hid hsz
  rw [← hl]
  by_cases h0 : trimM l = []
  · have HR : Hid (numP l = (0, false)) := by show _ = _; unfold numP; rw [if_neg (fun h => h.1 h0)]
    have e1 : D.toList = [] := by rw [ByteArray.toList_eq, hDl, h0]
    clear hl hD hDl hsz h0
    go_enter Tryd.func39, Tryd.ntmps39
    go_wp2_with (go_at_call 47; (with_reducible refine hq.mono ?_); rintro e w1 ⟨rfl, h9⟩; subst h9; clear hq)
    go_ret2
    exact ⟨by rw [HR.out]; rfl, Below.refl _ _⟩
  have e2 : D.toList.isEmpty = false := by rw [ByteArray.toList_eq, hDl]; cases h9 : trimM l with | nil => exact absurd h9 h0 | cons _ _ => rfl
  have e3 : ¬ D.toList = [] := by rw [ByteArray.toList_eq, hDl]; exact h0
  by_cases h18 : 18 < D.size
  · have HR : Hid (numP l = (0, false)) := by show _ = _; unfold numP; rw [if_neg (fun h => by have := h.2.1; omega)]
    have h18' : (18 : Int) < (D.size : Int) := by omega
    clear hl hD hDl hsz h0
    go_enter Tryd.func39, Tryd.ntmps39
    go_wp2_with (go_at_call 47; (with_reducible refine hq.mono ?_); rintro e w1 ⟨rfl, h9⟩; subst h9; clear hq)
    go_ret2
    exact ⟨by rw [HR.out]; rfl, Below.refl _ _⟩
  have hget : ∀ (k : Nat) (h : k < D.size), (trimM l)[k]? = some (D[k]'h) := fun k h => by
    rw [← hDl, Array.getElem?_toList]; exact Array.getElem?_eq_getElem h
  have HG := Lib.hid hget
  have H0 := Lib.hid h0
  clear hget hl hD hDl hsz h0
  have h18' : ¬ (18 : Int) < (D.size : Int) := by omega
  have hd18 : D.size ≤ 18 := by omega
  go_enter Tryd.func39, Tryd.ntmps39
  go_wp2_with (go_at_call 47; (with_reducible refine hq.mono ?_); rintro e w1 ⟨rfl, h9⟩; subst h9; clear hq)
  go_loop [5, 18] (fun n i => ∃ k : Nat, k ≤ D.size ∧ i = .int .i64 k ∧ n = .int .i64 (valL ((trimM l).take k)) ∧ ∀ c ∈ (trimM l).take k, dig c) (fun _ i => D.size - (intOf i).toNat)
  case atStart => exact ⟨0, Nat.zero_le _, rfl, rfl, by simp⟩
  case round =>
    obtain ⟨k, hk, rfl, rfl, hdg⟩ := hrel
    have HDG := Lib.hid hdg
    clear hdg
    by_cases hlt : k < D.size
    · have hsn : (trimM l).take (k + 1) = (trimM l).take k ++ [D[k]'hlt] := by rw [List.take_add_one, HG.out k hlt]; rfl
      have hv : valL ((trimM l).take k) < 10 ^ 17 := by
        have h1 := valL_lt _ HDG.out
        have h2 : ((trimM l).take k).length ≤ 17 := by rw [List.length_take]; omega
        exact Nat.lt_of_lt_of_le h1 (Nat.pow_le_pow_right (by omega) h2)
      have hv17 : valL ((trimM l).take k) ≤ 100000000000000000 := by omega
      by_cases hd : dig (D[k]'hlt)
      · have hdd := hd
        unfold dig at hdd
        have hd1 : (48 : Int) ≤ ((D[k]'hlt).toNat : Int) := by omega
        have hd2 : ((D[k]'hlt).toNat : Int) ≤ 57 := by omega
        have HS : Hid ((valL ((trimM l).take (k + 1)) : Int) = 10 * (valL ((trimM l).take k) : Int) + ((D[k]'hlt).toNat - 48 : Int)) := by
          show _ = _
          rw [hsn, valL_snoc]; omega
        have HT : Hid (∀ c ∈ (trimM l).take (k + 1), dig c) := fun c hc => by
          rw [hsn] at hc
          rcases List.mem_append.1 hc with h | h
          · exact HDG.out c h
          · rw [List.mem_singleton] at h; subst h; exact hd
        clear hsn hv hd hdd
        generalize valL ((trimM l).take k) = V at *
        go_wp2_with fail
        go_round
        case rel => exact ⟨k + 1, by omega, by go_num, by rw [HS.out], HT.out⟩
        case measure => simp [intOf]; omega
      · have HR : Hid (numP l = (0, false)) := by
          show _ = _
          unfold numP
          rw [if_neg (fun h => hd (h.2.2 _ (List.mem_of_getElem? (HG.out k hlt))))]
        clear hsn hv
        unfold dig at hd
        by_cases hA : ((D[k]'hlt).toNat : Int) < 48
        · clear hd
          go_wp2_with fail
          go_ret2
          exact ⟨by rw [HR.out]; rfl, Below.refl _ _⟩
        · have hB : (57 : Int) < ((D[k]'hlt).toNat : Int) := by omega
          clear hd
          go_wp2_with fail
          go_ret2
          exact ⟨by rw [HR.out]; rfl, Below.refl _ _⟩
    · have e1 : (trimM l).take k = trimM l := List.take_of_length_le (by have := HSZ.out; omega)
      have hV : valL ((trimM l).take k) ≤ 1000000000000000000 - 1 := by
        have h1 := valL_lt _ HDG.out
        have h2 : ((trimM l).take k).length ≤ 18 := by rw [List.length_take]; omega
        have h3 := Nat.lt_of_lt_of_le h1 (Nat.pow_le_pow_right (n := 10) (by omega) h2)
        omega
      have HND : Hid (numD l) := ⟨H0.out, by have := HSZ.out; omega, fun c hc => HDG.out c (by rw [e1]; exact hc)⟩
      have HVV : Hid (valL (trimM l) = valL ((trimM l).take k)) := by show _ = _; rw [e1]
      clear e1
      generalize valL ((trimM l).take k) = V at *
      by_cases he : trimM l = l
      · have HR : Hid (numP l = ((V : Int), decide (decI V = l))) := by
          show _ = _
          have h9 : numV l = V := by unfold numV; rw [if_pos he, HVV.out]
          unfold numP; rw [if_pos HND.out, h9]
        have hq := dec_is V w1 (by omega) (by omega)
        have hne : (D.toList == s.toList) = true := by rw [ByteArray.toList_eq, ByteArray.toList_eq, HD.out, ← HL.out, he]; simp
        have hne2 : (D.toList != s.toList) = false := by simp [bne, hne]
        have HE : Hid (((str (decI V)).toList == s.toList) = decide (decI V = l)) := by
          show _ = _
          rw [ByteArray.toList_eq, ByteArray.toList_eq, ← HL.out]
          rw [Bool.eq_iff_iff]; simp [str_toList]
        clear he
        go_wp2_with (go_at_call 23; (with_reducible refine hq.mono ?_); rintro e w2 ⟨rfl, hb2⟩; clear hq)
        go_ret2
        exact ⟨by rw [HR.out, ← HE.out]; rfl, hb2⟩
      · have HR : Hid (numP l = (-(V : Int), decide (decI (-(V : Int)) = l))) := by
          show _ = _
          have h9 : numV l = -(V : Int) := by unfold numV; rw [if_neg he, HVV.out]
          unfold numP; rw [if_pos HND.out, h9]
        have hq := dec_is (-(V : Int)) w1 (by omega) (by omega)
        have hne : (D.toList == s.toList) = false := by rw [ByteArray.toList_eq, ByteArray.toList_eq, HD.out, ← HL.out]; simpa using he
        have hne2 : (D.toList != s.toList) = true := by simp [bne, hne]
        have HE : Hid (((str (decI (-(V : Int)))).toList == s.toList) = decide (decI (-(V : Int)) = l)) := by
          show _ = _
          rw [ByteArray.toList_eq, ByteArray.toList_eq, ← HL.out]
          rw [Bool.eq_iff_iff]; simp [str_toList]
        clear he
        go_wp2_with (go_at_call 23; (with_reducible refine hq.mono ?_); rintro e w2 ⟨rfl, hb2⟩; clear hq)
        go_ret2
        exact ⟨by rw [HR.out, ← HE.out]; rfl, hb2⟩
end Go.Proofs.YthoemgiadadfcaaDoor
