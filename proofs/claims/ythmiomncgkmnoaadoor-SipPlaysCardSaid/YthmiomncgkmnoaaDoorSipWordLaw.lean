/- The law SipWords: its walk. -/
import Derived.Test.YthmiomncgkmnoaaDoorSipTurns
set_option linter.unusedVariables false
set_option linter.unusedSimpArgs false
namespace Go.Proofs.YthmiomncgkmnoaaDoor
open Go.RowKit Go.Sort Sip
/-- Are the first k words of two rows of one length the same? -/
def same (A B : List Nat) (k : Nat) : Bool := decide (A.length = B.length ∧ A.take k = B.take k)
theorem same_zero (A B : List Nat) : ((A.length : Int) == (B.length : Int)) = same A B 0 := by
  unfold same
  rw [Bool.eq_iff_iff]
  simp [Int.ofNat_inj]
theorem same_step (A B : List Nat) (k : Nat) (hk : k < A.length) (h : same A B k = true) : (((A.getD k 0 : Nat) : Int) == ((B.getD k 0 : Nat) : Int)) = same A B (k + 1) := by
  unfold same at h ⊢
  obtain ⟨h1, h2⟩ := of_decide_eq_true h
  rw [Bool.eq_iff_iff]
  have ha : A[k]? = some (A[k]'hk) := List.getElem?_eq_getElem hk
  have hb : B[k]? = some (B[k]'(by omega)) := List.getElem?_eq_getElem (by omega)
  rw [List.take_succ_eq_append_getElem hk, List.take_succ_eq_append_getElem (show k < B.length by omega), List.getD_eq_getElem?_getD, List.getD_eq_getElem?_getD, ha, hb, h2]
  simp only [Option.getD_some, h1, true_and, List.append_cancel_left_eq, List.cons.injEq, and_true, decide_eq_true_eq, beq_iff_eq]
  exact Int.ofNat_inj
theorem same_len (A B : List Nat) (k : Nat) (h : same A B k = true) : A.length = B.length := (of_decide_eq_true h).1
theorem same_end (A B : List Nat) (k : Nat) (hk : A.length ≤ k) : same A B k = decide (A = B) := by
  unfold same
  apply decide_eq_decide.2
  constructor
  · rintro ⟨h1, h2⟩
    rw [List.take_of_length_le hk, List.take_of_length_le (by omega)] at h2
    exact h2
  · rintro rfl; exact ⟨rfl, rfl⟩
theorem same_no (A B : List Nat) (k : Nat) (h : same A B k = false) : decide (A = B) = false := by
  cases hd : decide (A = B) with
  | false => rfl
  | true =>
    obtain rfl := of_decide_eq_true hd
    unfold same at h
    simp at h
theorem str_same (s t : ByteArray) (hs : s.size ≤ 255) (ht : t.size ≤ 255) : (s.toList == t.toList) = decide (words (bs s) = words (bs t)) := by
  rw [Bool.eq_iff_iff]
  simp only [beq_iff_eq, decide_eq_true_eq]
  constructor
  · intro h
    have : s = t := by
      have h' : s.data.toList = t.data.toList := by simpa [ByteArray.toList_eq] using h
      cases s; cases t; simp at h'; rw [h']
    rw [this]
  · intro h
    rw [bs_inj s t (words_inj _ _ (bytes_bs s) (bytes_bs t) (by rw [bs_length]; exact hs) (by rw [bs_length]; exact ht) h)]
/-- A row of words, read in a later world. -/
theorem Wo.at_ {w0 w w' : World} {g n cap : Nat} {xs : List Nat} (h : Wo w0 w (.slice (some ⟨g, 0, none⟩) n cap) xs) (hn : n = xs.length) (hb : Below w.heap.size w w') (k : Nat) (hk : k < n) :
    w'.cell? ⟨g, k, none⟩ = some (.int .u64 ((xs.getD k 0 : Nat) : Int)) := by
  have hl : g < w.heap.size := h.own.lt g (by rw [foot_slice]; simp)
  have h2 := h.own
  subst hn
  rw [← casts_length] at h2
  rw [World.cell?_of_block (hb.block g hl), Own.at_ h2 k (by rw [casts_length]; exact hk), casts_get]
set_option maxRecDepth 100000 in
theorem sipWords_walk (s t : ByteArray) (w : World) (ys : s.size ≤ maxLen) (yt : t.size ≤ maxLen) (hg : Signs w) :
    Calls Tryd.prog 5 #[.string s, .string t] w fun e w' => e = .returned (.bool true) ∧ Below w.heap.size w w' := by
  unfold maxLen at ys yt
  have hA : ∀ wx, Hid (Below w.heap.size w wx) → Calls Tryd.prog 15 #[] wx fun e w' => e = .returned (.bool true) ∧ Below w.heap.size w w' := fun wx hx => (sipAwake_is wx (hg.below hx.out)).mono fun _ _ ⟨h1, h2⟩ => ⟨h1, hx.out.trans (h2.mono hx.out.size)⟩
  have HB0 := Lib.hid (Below.refl w.heap.size w)
  clear hg
  by_cases hs : s.size ≤ 255
  · by_cases ht : t.size ≤ 255
    · have hE := str_same s t hs ht
      have hla : (words (bs s)).length = s.size / 8 + 1 := by rw [words_length, bs_length]
      have c1 := fun w => words_is s (by omega) w
      have c2 := fun w => words_is t (by omega) w
      obtain ⟨A, hA⟩ : ∃ A, A = words (bs s) := ⟨_, rfl⟩
      obtain ⟨B, hB⟩ : ∃ B, B = words (bs t) := ⟨_, rfl⟩
      rw [← hA] at c1 hE hla
      rw [← hB] at c2 hE
      obtain ⟨D, hD⟩ : ∃ D, D = decide (A = B) := ⟨_, rfl⟩
      rw [← hD] at hE
      have HD := Lib.hid hD
      have h0 := Lib.hid (same_zero A B)
      obtain ⟨n, hn⟩ : ∃ n, n = A.length := ⟨_, rfl⟩
      obtain ⟨m, hm⟩ : ∃ n, n = B.length := ⟨_, rfl⟩
      rw [← hn] at c1 hla h0
      rw [← hm] at c2 h0
      have HN := Lib.hid hn
      have HM := Lib.hid hm
      have hla' : ((n : Int) == (s.size : Int) / 8 + 1) = true := by rw [beq_iff_eq]; omega
      have HL := Lib.hid hla'
      have hnl : n ≤ 100 := by omega
      have HE := Lib.hid hE
      clear hA hB hD hn hm hla hla' hE
      go_enter Tryd.func5, Tryd.ntmps5
      go_wp2_with (first | (go_at_call 15; (with_reducible refine (hA _ (by assumption)).mono ?_); rintro e w1 ⟨rfl, hb1⟩; have HB1 := Lib.hid hb1; clear hb1) | (go_at_call 16; (with_reducible refine (c1 _).mono ?_); rintro e w2 ⟨g1, k1, rfl, ho1⟩; have HO1 := Lib.hid ho1; clear ho1 c1) | (go_at_call 16; (with_reducible refine (c2 _).mono ?_); rintro e w3 ⟨g2, k2, rfl, ho2⟩; have HO2 := Lib.hid ho2; clear ho2 c2))
      have hsz := Lib.hid (HO2.out.below.trans (Below.refl _ _))
      have HB3 : Hid (Below w.heap.size w w3) := by
        show Below w.heap.size w w3
        have e1 := HO1.out.below
        have e2 := HO2.out.below
        exact (HB1.out.trans (e1.mono HB1.out.size)).trans (e2.mono (by have := HB1.out.size; have := e1.size; omega))
      go_loopw [7, 8] (fun b i wr => ∃ k : Nat, k ≤ n ∧ i = .int .i64 k ∧ b = .bool (same A B k) ∧ Hid (∃ q, wr = w3.drewN q)) (fun _ i _ => n - (intOf i).toNat)
      case atStart => exact ⟨0, by omega, rfl, by rw [h0.out], Lib.hid ⟨0, rfl⟩⟩
      case round =>
        obtain ⟨k, hk, rfl, rfl, hw⟩ := hrel
        by_cases hlt : k < n
        · cases hsm : same A B k with
          | true =>
            have hst := same_step A B k (by rw [← HN.out]; exact hlt) hsm
            have hln := same_len A B k hsm
            have hkm : k < m := by rw [HM.out, ← hln, ← HN.out]; exact hlt
            have hbw : Below w3.heap.size w3 wr := by obtain ⟨q, rfl⟩ := hw.out; exact below_drewN' (Below.refl _ _) q
            have d1 := HO1.out.at_ HN.out ((HO2.out.below).trans (hbw.mono HO2.out.below.size)) k hlt
            have d2 := HO2.out.at_ HM.out hbw k hkm
            obtain ⟨X, hX⟩ : ∃ X, X = A.getD k 0 := ⟨_, rfl⟩
            obtain ⟨Y, hY⟩ : ∃ X, X = B.getD k 0 := ⟨_, rfl⟩
            rw [← hX] at d1 hst
            rw [← hY] at d2 hst
            have HST := Lib.hid hst
            clear hsm hst hln hbw hX hY
            go_wp2
            go_quiet (fail)
            go_wp2
            go_roundw
            case rel => exact ⟨k + 1, by omega, by go_num, by rw [HST.out], Lib.hid (by obtain ⟨q, rfl⟩ := hw.out; exact ⟨_, drew2 _ _ _⟩)⟩
            case measure => simp [intOf]; omega
          | false =>
            have hno := same_no A B k hsm
            have hE : (s.toList == t.toList) = false := by rw [HE.out, HD.out, hno]
            have hq := HL.out
            clear hsm hno
            go_wp2
            go_ret
            obtain ⟨q, rfl⟩ := hw.out
            exact ⟨rfl, below_drewN' HB3.out q⟩
        · obtain rfl : k = n := by omega
          have hen := same_end A B k (by rw [← HN.out]; exact Nat.le_refl _)
          rw [← HD.out] at hen
          rw [hen]
          have hE := HE.out
          have hq := HL.out
          clear hen
          cases D
          all_goals
            go_wp2
            go_ret
            obtain ⟨q, rfl⟩ := hw.out
            exact ⟨rfl, below_drewN' HB3.out q⟩
    · go_enter Tryd.func5, Tryd.ntmps5
      go_wp2_with (first | (go_at_call 15; (with_reducible refine (hA _ (by assumption)).mono ?_); rintro e w1 ⟨rfl, hb1⟩; have HB1 := Lib.hid hb1; clear hb1))
      go_ret
      exact ⟨rfl, HB1.out⟩
  · go_enter Tryd.func5, Tryd.ntmps5
    go_wp2_with (first | (go_at_call 15; (with_reducible refine (hA _ (by assumption)).mono ?_); rintro e w1 ⟨rfl, hb1⟩; have HB1 := Lib.hid hb1; clear hb1))
    go_ret
    exact ⟨rfl, HB1.out⟩
end Go.Proofs.YthmiomncgkmnoaaDoor
