/- The law SipEnds: its walk. -/
import Derived.Test.YthmiomncgkmnoaaDoorSipWordLaw
import Derived.Deep.RegionWith
import Derived.Deep.DeepCutAuto
set_option linter.unusedVariables false
set_option linter.unusedSimpArgs false
namespace Go.Proofs.YthmiomncgkmnoaaDoor
open Go.RowKit Go.Sort Sip
/-- A row of words at the head of block g. -/
def Ws (w : World) (g : Nat) (xs : List Nat) : Prop := g < w.heap.size ∧ ∀ k, k < xs.length → w.cell? ⟨g, k, none⟩ = some (.int .u64 ((xs.getD k 0 : Nat) : Int))
theorem Ws.below {w w' : World} {g : Nat} {xs : List Nat} (h : Ws w g xs) (hb : Below w.heap.size w w') : Ws w' g xs :=
  ⟨Nat.lt_of_lt_of_le h.1 hb.size, fun k hk => (hb.cell h.1).trans (h.2 k hk)⟩
theorem Wo.ws {w0 w : World} {g cap : Nat} {xs : List Nat} (h : Wo w0 w (.slice (some ⟨g, 0, none⟩) xs.length cap) xs) : Ws w g xs :=
  ⟨h.own.lt g (by rw [foot_slice]; simp), fun k hk => h.at_ rfl (Below.refl _ _) k hk⟩
theorem xor_u8 (a b : Nat) (ha : a < 256) (hb : b < 256) : bits .xor .u8 (a : Int) (b : Int) = ((a ^^^ b : Nat) : Int) := by
  have hx : a ^^^ b < 2 ^ 8 := Nat.xor_lt_two_pow ha hb
  have h1 : (BitVec.ofInt 8 (a : Int)).toNat = a := by
    rw [BitVec.ofInt_natCast, BitVec.toNat_ofNat]; exact Nat.mod_eq_of_lt ha
  have h2 : (BitVec.ofInt 8 (b : Int)).toNat = b := by
    rw [BitVec.ofInt_natCast, BitVec.toNat_ofNat]; exact Nat.mod_eq_of_lt hb
  show IntKind.u8.wrap ((BitVec.ofInt 8 (a : Int) ^^^ BitVec.ofInt 8 (b : Int)).toNat : Int) = _
  rw [BitVec.toNat_xor, h1, h2]
  have : ∀ n : Int, IntKind.u8.wrap n = n % 256 := fun n => by simp [IntKind.wrap, IntKind.bits, IntKind.signed]
  rw [this]; omega
theorem xor_back_zero (c y : Nat) : c ^^^ y = c ↔ y = 0 := by
  constructor
  · intro h
    have : c ^^^ (c ^^^ y) = c ^^^ c := by rw [h]
    rw [← Nat.xor_assoc, Nat.xor_self, Nat.zero_xor] at this
    exact this
  · rintro rfl; exact Nat.xor_zero c
/-- A text with one byte changed. -/
def changed (l : List Nat) (i y : Nat) : List Nat := l.set i (l.getD i 0 ^^^ y)
theorem changed_same (l : List Nat) (i y : Nat) (hi : i < l.length) (hl : Bytes l) (hy : y < 256) (hn : l.length ≤ 255) : decide (words l = words (changed l i y)) = ((y : Int) == 0) := by
  have hb : Bytes (changed l i y) := by
    intro c hc
    rcases List.mem_or_eq_of_mem_set hc with h | h
    · exact hl c h
    · rw [h]
      have : l.getD i 0 < 2 ^ 8 := by
        rw [List.getD_eq_getElem?_getD, List.getElem?_eq_getElem hi]; exact hl _ (List.getElem_mem hi)
      exact Nat.xor_lt_two_pow (n := 8) this hy
  rw [Bool.eq_iff_iff]
  simp only [decide_eq_true_eq, beq_iff_eq]
  constructor
  · intro h
    have h1 := words_inj _ _ hl hb hn (by unfold changed; rw [List.length_set]; exact hn) h
    have h2 : (changed l i y).getD i 0 = l.getD i 0 := by rw [← h1]
    unfold changed at h2
    rw [List.getD_eq_getElem?_getD, List.getElem?_set_self hi, Option.getD_some] at h2
    have := (xor_back_zero _ _).1 h2
    omega
  · intro h
    have : y = 0 := by omega
    subst this
    unfold changed
    rw [Nat.xor_zero, List.getD_eq_getElem?_getD, List.getElem?_eq_getElem hi, Option.getD_some, List.set_getElem_self]
set_option maxRecDepth 100000 in
set_option maxHeartbeats 3200000 in
theorem sipEnds_walk (s : ByteArray) (at_ by_ : Int) (w : World) (ys : s.size ≤ maxLen) (hat : (Lit.int .u8 at_).wf = true) (hby : (Lit.int .u8 by_).wf = true) (hg : Signs w) :
    Calls Tryd.prog 6 #[.string s, .int .u8 at_, .int .u8 by_] w fun e w' => e = .returned (.bool true) ∧ Below w.heap.size w w' := by
  unfold maxLen at ys
  have hA : ∀ wx, Hid (Below w.heap.size w wx) → Calls Tryd.prog 15 #[] wx fun e w' => e = .returned (.bool true) ∧ Below w.heap.size w w' := fun wx hx => (sipAwake_is wx (hg.below hx.out)).mono fun _ _ ⟨h1, h2⟩ => ⟨h1, hx.out.trans (h2.mono hx.out.size)⟩
  have HB0 := Lib.hid (Below.refl w.heap.size w)
  obtain ⟨ha0, ha1⟩ := wf_u8 hat
  obtain ⟨hb0, hb1⟩ := wf_u8 hby
  obtain ⟨p, rfl⟩ : ∃ p : Nat, at_ = p := ⟨at_.toNat, by omega⟩
  obtain ⟨y, rfl⟩ : ∃ p : Nat, by_ = p := ⟨by_.toNat, by omega⟩
  clear hg hat hby ha0 hb0
  by_cases hs : 1 ≤ s.size ∧ s.size ≤ 250
  · obtain ⟨h1, h2⟩ := hs
    obtain ⟨i, hi⟩ : ∃ i, i = p % s.size := ⟨_, rfl⟩
    have hil : i < s.size := by rw [hi]; exact Nat.mod_lt _ (by omega)
    have hi' : (p : Int) % (s.size : Int) = (i : Int) := by rw [hi, Int.natCast_emod]
    have kb : ∀ (W : World), (convert 9 33 (.string s)).run Tryd.prog W = .ok (.slice (some ⟨W.heap.size, 0, none⟩) s.size (grownCap W s.size 0 5)) (Lib.bytesWorld W 5 s) := fun W => Lib.run_convert_string_bytes W 9 33 5 s Tryd.underlying9 Tryd.underlying33 Tryd.underlying5
    clear hi
    have hz : ((s.size : Int) == 0) = false := by rw [beq_eq_false_iff_ne]; omega
    go_enter Tryd.func6, Tryd.ntmps6
    go_upto_region 4 with (first | (go_at_call 15; (with_reducible refine (hA _ (by assumption)).mono ?_); rintro e w1 ⟨rfl, hb1⟩; have HB1 := Lib.hid hb1; clear hb1))
    obtain ⟨cap, hcap⟩ : ∃ c, c = grownCap w1 s.size 0 5 := ⟨_, rfl⟩
    have hrow := row_bytesWorld w1 5 s
    have HB2 : Hid (Below w.heap.size w (Lib.bytesWorld w1 5 s)) := below_bytesWorld HB1.out HB1.out.size 5 s
    have HBb : Hid (w.heap.size ≤ w1.heap.size) := HB1.out.size
    rw [← hcap]
    generalize Lib.bytesWorld w1 5 s = W2 at *
    generalize w1.heap.size = B at *
    obtain ⟨c, hc⟩ : ∃ c, c = (bs s).getD i 0 := ⟨_, rfl⟩
    have hcl : c < 256 := by
      rw [hc, List.getD_eq_getElem?_getD, List.getElem?_eq_getElem (by rw [bs_length]; exact hil)]
      exact bytes_bs s _ (List.getElem_mem _)
    have hin : (ints s).getD i 0 = (c : Int) := by
      rw [hc]; unfold ints
      simp only [List.getD_eq_getElem?_getD, List.getElem?_map, List.getElem?_eq_getElem (show i < (bs s).length by rw [bs_length]; exact hil)]
      rfl
    have hcell := hrow.at_ i (by rw [ints_length]; exact hil)
    rw [hin] at hcell
    have hfree := hrow.free i (by rw [ints_length]; exact hil)
    have hxo := xor_u8 c y hcl (by omega)
    have hrow3 := hrow.set i ((c ^^^ y : Nat) : Int) (by rw [ints_length]; exact hil)
    have hch : (ints s).set i ((c ^^^ y : Nat) : Int) = casts (changed (bs s) i y) := by
      unfold ints casts changed
      rw [List.map_set, hc]
    rw [hch] at hrow3
    have HR3 := Lib.hid hrow3
    have HB3 : Hid (Below w.heap.size w (W2.setCell ⟨B, i, none⟩ (.int .u8 ((c ^^^ y : Nat) : Int)))) := by
      show Below w.heap.size w _
      refine (Keep.setCell W2 ⟨B, i, none⟩ _ [B] (by simp)).below HB2.out ?_
      intro j hj; rw [List.mem_singleton] at hj; rw [hj]; exact HBb.out
    have hsm := changed_same (bs s) i y (by rw [bs_length]; exact hil) (bytes_bs s) (by omega) (by rw [bs_length]; omega)
    have HSM := Lib.hid hsm
    have hcw : (p : Int) < 256 := by omega
    have e1 : IntKind.i64.wrap (p : Int) = (p : Int) := by rw [IntKind.wrap_i64]; omega
    clear hcap hrow hc hcl hin hrow3 hch hsm kb
    go_upto_region 5 with (fail)
    generalize W2.setCell ⟨B, i, none⟩ (.int .u8 ((c ^^^ y : Nat) : Int)) = W3 at *
    obtain ⟨ch, hch⟩ : ∃ ch, ch = changed (bs s) i y := ⟨_, rfl⟩
    have hchb : Bytes ch := by
      rw [hch]
      intro d hd
      rcases List.mem_or_eq_of_mem_set hd with h | h
      · exact bytes_bs s d h
      · rw [h]
        have : (bs s).getD i 0 < 2 ^ 8 := by
          rw [List.getD_eq_getElem?_getD, List.getElem?_eq_getElem (by rw [bs_length]; exact hil)]; exact bytes_bs s _ (List.getElem_mem _)
        exact Nat.xor_lt_two_pow (n := 8) this (by omega)
    have hchl : ch.length = s.size := by rw [hch]; unfold changed; rw [List.length_set, bs_length]
    rw [← hch] at HR3 HSM
    obtain ⟨T, hT⟩ : ∃ T, T = strOfNums (casts ch) := ⟨_, rfl⟩
    have hTb : bs T = ch := by rw [hT]; exact bs_strOfNums ch hchb
    have hTs : T.size = s.size := by rw [← bs_length, hTb, hchl]
    have ks : ∀ wx, Row wx B .u8 (casts ch) → (convert 33 9 (.slice (some ⟨B, 0, none⟩) s.size cap)).run Tryd.prog wx = .ok (.string T) wx := fun wx hx => by
      rw [hT]; exact string_row hx (by rw [casts_length, hchl]) 33 5 9 Tryd.underlying33 Tryd.underlying5 Tryd.underlying9
    have KS := Lib.hid ks
    have c1 := fun w => words_is s (by omega) w
    have c2 := fun w => words_is T (by omega) w
    rw [hTb] at c2
    obtain ⟨A, hAe⟩ : ∃ A, A = words (bs s) := ⟨_, rfl⟩
    obtain ⟨C, hCe⟩ : ∃ A, A = words ch := ⟨_, rfl⟩
    obtain ⟨n, hn⟩ : ∃ n, n = s.size / 8 + 1 := ⟨_, rfl⟩
    have hAl : A.length = n := by rw [hAe, words_length, bs_length, hn]
    have hCl : C.length = n := by rw [hCe, words_length, hchl, hn]
    rw [← hAe] at c1
    rw [← hCe] at c2
    rw [← hAe, ← hCe] at HSM
    rw [hAl] at c1
    rw [hCl] at c2
    have hnl : n ≤ 100 := by omega
    have hW := ks _ HR3.out.drew
    have HAL := Lib.hid hAl
    have HCL := Lib.hid hCl
    have HAE := Lib.hid hAe
    clear hch hchb hchl hT hTb hTs ks hAe hCe hn hAl hCl hxo hcell hfree
    go_cut [8, 9] (fun s8 s9 wx => ∃ g1 k1 g2 k2, s8 = .slice (some ⟨g1, 0, none⟩) n k1 ∧ s9 = .slice (some ⟨g2, 0, none⟩) n k2 ∧ Hid (Below w.heap.size w wx ∧ Ws wx g1 A ∧ Ws wx g2 C))
    case first =>
      go_region_with (first | (go_at_call 16; (with_reducible refine (c1 _).mono ?_); rintro e w4 ⟨g1, k1, rfl, ho1⟩; have hcv4 := KS.out _ (HR3.out.drew.below ho1.below); have HO1 := Lib.hid ho1; clear ho1) | (go_at_call 16; (with_reducible refine (c2 _).mono ?_); rintro e w5 ⟨g2, k2, rfl, ho2⟩; have HO2 := Lib.hid ho2; clear ho2))
      all_goals
        go_wp2_with fail
        go_meet
        have o1 := HO1.out
        have o2 := HO2.out
        rw [← HAL.out] at o1
        rw [← HCL.out] at o2
        have b4 : Below w.heap.size w w4 := (⟨HB3.out.os, HB3.out.tape, HB3.out.output, HB3.out.size, HB3.out.block⟩ : Below w.heap.size w W3.drew).trans (o1.below.mono HB3.out.size)
        exact ⟨g1, k1, g2, k2, rfl, rfl, Lib.hid ⟨b4.trans (o2.below.mono b4.size), o1.ws.below o2.below, o2.ws⟩⟩
    case rest =>
      obtain ⟨g1, k1, g2, k2, rfl, rfl, HF⟩ := hcut
      go_wp2
      obtain ⟨D, hD⟩ : ∃ D, D = decide (A = C) := ⟨_, rfl⟩
      rw [← hD] at HSM
      have HD := Lib.hid hD
      have h0 : Hid (same A C 0 = true) := by
        show same A C 0 = true
        rw [← same_zero, HAL.out, HCL.out]; simp
      clear hD c1 c2 hW e1 hcw hi'
      go_loopw [10, 11] (fun b i wr => ∃ k : Nat, k ≤ n ∧ i = .int .i64 k ∧ b = .bool (same A C k) ∧ Hid (∃ q, wr = wc.drewN q)) (fun _ i _ => n - (intOf i).toNat)
      case atStart => exact ⟨0, by omega, rfl, by rw [h0.out], Lib.hid ⟨0, rfl⟩⟩
      case round =>
        clear h0
        obtain ⟨k, hk, rfl, rfl, hw⟩ := hrel
        have HBr : Hid (Below w.heap.size w wr ∧ Ws wr g1 A ∧ Ws wr g2 C) := by
          show _ ∧ _ ∧ _
          obtain ⟨q, rfl⟩ := hw.out
          have hb : Below wc.heap.size wc (wc.drewN q) := below_drewN' (Below.refl _ _) q
          exact ⟨below_drewN' HF.out.1 q, HF.out.2.1.below hb, HF.out.2.2.below hb⟩
        by_cases hlt : k < n ∧ same A C k = true
        · obtain ⟨hlt, hsm⟩ := hlt
          have hst := same_step A C k (by rw [HAL.out]; exact hlt) hsm
          have d1 := HBr.out.2.1.2 k (by rw [HAL.out]; exact hlt)
          have d2 := HBr.out.2.2.2 k (by rw [HCL.out]; exact hlt)
          obtain ⟨X, hX⟩ : ∃ X, X = A.getD k 0 := ⟨_, rfl⟩
          obtain ⟨Y, hY⟩ : ∃ X, X = C.getD k 0 := ⟨_, rfl⟩
          rw [← hX] at d1 hst
          rw [← hY] at d2 hst
          rw [hsm]
          have HST := Lib.hid hst
          clear hsm hst hX hY HBr
          go_wp2
          go_quiet (fail)
          go_wp2
          go_roundw
          case rel => exact ⟨k + 1, by omega, by go_num, by rw [HST.out], Lib.hid (by obtain ⟨q, rfl⟩ := hw.out; exact ⟨_, drew2 _ _ _⟩)⟩
          case measure => simp [intOf]; omega
        · have hfin : same A C k = D := by
            rw [HD.out]
            by_cases h1 : k < n
            · have h2 : same A C k = false := by
                cases h3 : same A C k with
                | false => rfl
                | true => exact absurd ⟨h1, h3⟩ hlt
              rw [h2, same_no A C k h2]
            · exact same_end A C k (by rw [HAL.out]; omega)
          have hor : D = true → ¬ (k < n) := fun h1 h2 => hlt ⟨h2, by rw [hfin, h1]⟩
          rw [hfin]
          have hy0 := HSM.out.symm
          obtain ⟨Z, hZ⟩ : ∃ Z, Z = strOfNums [0] := ⟨_, rfl⟩
          have hcz : ∀ W : World, (convert 33 9 (.slice (some ⟨W.heap.size, 0, none⟩) 1 1)).run Tryd.prog (W.alloc (.cells #[.int .u8 0] 5)) = .ok (.string Z) (W.alloc (.cells #[.int .u8 0] 5)) := fun W => by
            rw [hZ]
            exact run_convert_bytes_arg _ 33 5 Tryd.underlying33 Tryd.underlying5 _ 0 1 1 [0] rfl (fun j hj => by
              obtain rfl : j = 0 := by simp at hj; omega
              exact cell_of_row _ _ 0 _ 5 (0, 0) (heap_alloc_new W _)) 9 Tryd.underlying9
          have hZs : bs Z = [0] := by rw [hZ]; exact bs_strOfNums [0] (by simp)
          have hZn : Z.size = 1 := by rw [← bs_length, hZs]; rfl
          have hlong : bs (s ++ Z) = bs s ++ [0] := by rw [bs_append, hZs]
          have hbig : ¬ 9223372036854775807 < s.size + Z.size := by omega
          have hsz' : (s ++ Z).size = s.size + 1 := by rw [← bs_length, hlong, List.length_append, bs_length]; rfl
          have c3 := fun w => words_is (s ++ Z) (by omega) w
          rw [hlong] at c3
          have hlg := words_longer (bs s) (bytes_bs s) (by rw [bs_length]; exact h2)
          obtain ⟨L, hL⟩ : ∃ L, L = words (bs s ++ [0]) := ⟨_, rfl⟩
          obtain ⟨l, hl⟩ : ∃ l, l = L.length := ⟨_, rfl⟩
          have hl2 : l = (s.size + 1) / 8 + 1 := by rw [hl, hL, words_length, List.length_append, bs_length]; rfl
          have hn2 : n = s.size / 8 + 1 := by rw [← HAL.out, HAE.out, words_length, bs_length]
          rw [← hL, ← HAE.out, HAL.out, bs_length] at hlg
          rw [← hL] at c3
          rw [← hl] at c3 hlg
          have HLG : Hid (l = n → L.getD (l - 1) 0 ≠ A.getD (n - 1) 0) := by
            show l = n → L.getD (l - 1) 0 ≠ A.getD (n - 1) 0
            intro he
            have := hlg he
            rw [show l - 1 = s.size / 8 by omega, show n - 1 = s.size / 8 by omega]
            exact this
          have HLL := Lib.hid hl
          have hl3 : 1 ≤ l ∧ l ≤ 100 := by omega
          have hn3 : 1 ≤ n := by omega
          obtain ⟨hl3, hl4⟩ := hl3
          clear hfin hlt HSM hZ hZs hZn hlong hsz' hlg hL hl hl2 hn2
          have tail : ∀ wx, Hid (Below w.heap.size w wx ∧ Ws wx g1 A) → True := fun _ _ => trivial
          have key : D = false ∨ (D = true ∧ ¬ k < n) := by
            cases D
            · exact .inl rfl
            · exact .inr ⟨rfl, hor rfl⟩
          clear hor tail
          obtain ⟨W0, hW0⟩ : ∃ W0, W0 = wr.alloc (.cells #[.int .u8 0] 5) := ⟨_, rfl⟩
          have hB0 : Hid (Below w.heap.size w W0 ∧ Ws W0 g1 A) := by
            show _ ∧ _
            rw [hW0]
            exact ⟨HBr.out.1.alloc HBr.out.1.size _, HBr.out.2.1.below ((Below.refl _ _).alloc (Nat.le_refl _) _)⟩
          have c3' := c3 W0
          rw [hW0] at c3'
          have HW0 := Lib.hid hW0
          clear hW0 c3
          have c3x := c3'.mono (R' := fun e w' => ∃ g3 k3 X3 X1, e = .returned (.slice (some ⟨g3, 0, none⟩) l k3) ∧ Hid (Below w.heap.size w w') ∧ w'.cell? ⟨g3, l - 1, none⟩ = some (.int .u64 (X3 : Nat)) ∧ w'.cell? ⟨g1, n - 1, none⟩ = some (.int .u64 (X1 : Nat)) ∧ Hid (l = n → X3 ≠ X1)) (by
            rintro e w' ⟨g3, k3, rfl, ho3⟩
            rw [← HW0.out] at ho3
            have hws := ho3
            rw [HLL.out] at hws
            exact ⟨g3, k3, _, _, rfl, Lib.hid (hB0.out.1.trans (ho3.below.mono hB0.out.1.size)), hws.ws.2 (l - 1) (by rw [← HLL.out]; omega), (hB0.out.2.below ho3.below).2 (n - 1) (by rw [HAL.out]; omega), Lib.hid HLG.out⟩)
          clear c3' HLG HLL hB0 HBr
          rcases key with rfl | ⟨rfl, h1⟩
          · by_cases h1 : k < n
            all_goals
              go_wp2_with (go_at_call 16; (with_reducible refine c3x.mono ?_); rintro e w6 ⟨g3, k3, X3, X1, rfl, HB6, hx3, hx1, HNE⟩)
              cases hE : ((X3 : Int) == (X1 : Int)) with
              | false =>
                go_quiet (fail)
                go_wp2
                go_ret
                exact ⟨rfl, below_drewN' HB6.out _⟩
              | true =>
                have hln : ((l : Int) == (n : Int)) = false := by
                  rw [beq_eq_false_iff_ne]
                  intro h
                  have h3 : X3 = X1 := by have := beq_iff_eq.1 hE; omega
                  exact HNE.out (by omega) h3
                go_quiet (fail)
                go_wp2
                go_ret
                exact ⟨rfl, below_drewN' HB6.out _⟩
          · go_wp2_with (go_at_call 16; (with_reducible refine c3x.mono ?_); rintro e w6 ⟨g3, k3, X3, X1, rfl, HB6, hx3, hx1, HNE⟩)
            cases hE : ((X3 : Int) == (X1 : Int)) with
            | false =>
              go_quiet (fail)
              go_wp2
              go_ret
              exact ⟨rfl, below_drewN' HB6.out _⟩
            | true =>
              have hln : ((l : Int) == (n : Int)) = false := by
                rw [beq_eq_false_iff_ne]
                intro h
                have h3 : X3 = X1 := by have := beq_iff_eq.1 hE; omega
                exact HNE.out (by omega) h3
              go_quiet (fail)
              go_wp2
              go_ret
              exact ⟨rfl, below_drewN' HB6.out _⟩
  · have h1 : s.size = 0 ∨ 250 < s.size := by omega
    rcases h1 with h1 | h1
    · have hz : ((s.size : Int) == 0) = true := by rw [beq_iff_eq]; omega
      have hle : (s.size : Int) ≤ 250 := by omega
      go_enter Tryd.func6, Tryd.ntmps6
      go_wp2_with (first | (go_at_call 15; (with_reducible refine (hA _ (by assumption)).mono ?_); rintro e w1 ⟨rfl, hb1⟩; have HB1 := Lib.hid hb1; clear hb1))
      go_ret
      exact ⟨rfl, HB1.out⟩
    · go_enter Tryd.func6, Tryd.ntmps6
      go_wp2_with (first | (go_at_call 15; (with_reducible refine (hA _ (by assumption)).mono ?_); rintro e w1 ⟨rfl, hb1⟩; have HB1 := Lib.hid hb1; clear hb1))
      go_ret
      exact ⟨rfl, HB1.out⟩
end Go.Proofs.YthmiomncgkmnoaaDoor
