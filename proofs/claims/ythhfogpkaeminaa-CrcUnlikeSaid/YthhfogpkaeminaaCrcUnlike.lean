/- The walk of the law CrcUnlike. -/
import Derived.Test.YthhfogpkaeminaaCrcWalk
import Derived.Test.YthhfogpkaeminaaRowOf
import Derived.BigRegion
import Derived.BigQuiet
namespace Go.Proofs.Ythhfogpkaeminaa
open Go.RowKit Go.Sort

/-- The first k bytes are made one with the other's. -/
def mixed (l m : List Nat) (k : Nat) : List Int := ((List.zipWith (· ^^^ ·) l m).take k ++ l.drop k).map Nat.cast
theorem mixed_length (l m : List Nat) (h : l.length = m.length) (k : Nat) : (mixed l m k).length = l.length := by
  simp [mixed, h]; omega
theorem mixed_zero (s : ByteArray) (m : List Nat) : mixed (bs s) m 0 = ints s := by simp [mixed, ints]
theorem mixed_at (l m : List Nat) (h : l.length = m.length) (k : Nat) (hk : k < l.length) : (mixed l m k).getD k 0 = ((l[k] : Nat) : Int) := by
  have h1 : ((List.zipWith (· ^^^ ·) l m).take k).length = k := by simp; omega
  simp only [mixed, List.getD_eq_getElem?_getD, List.getElem?_map]
  rw [List.getElem?_append_right (by omega), h1]
  simp [List.getElem?_eq_getElem hk]
theorem mixed_succ (l m : List Nat) (h : l.length = m.length) (k : Nat) (hk : k < l.length) : mixed l m (k + 1) = (mixed l m k).set k ((l[k] ^^^ m[k] : Nat) : Int) := by
  have hz : k < (List.zipWith (· ^^^ ·) l m).length := by simp; omega
  simp only [mixed]
  rw [show ((l[k] ^^^ m[k] : Nat) : Int) = Nat.cast (l[k] ^^^ m[k]) from rfl, ← List.map_set]
  congr 1
  rw [List.take_succ_eq_append_getElem hz, List.set_append_right _ _ (by simp; omega)]
  have h1 : ((List.zipWith (· ^^^ ·) l m).take k).length = k := by simp; omega
  rw [h1, Nat.sub_self]
  conv => rhs; rw [List.drop_eq_getElem_cons hk, List.set_cons_zero]
  simp
theorem mixed_all (l m : List Nat) (h : l.length = m.length) : mixed l m l.length = (List.zipWith (· ^^^ ·) l m).map Nat.cast := by
  simp only [mixed, List.drop_length, List.append_nil]
  rw [List.take_of_length_le (by simp; omega)]

theorem unlike_pure (l m : List Nat) (h : l.length = m.length) (r : BitVec 16) :
    Crc.more r (List.zipWith (· ^^^ ·) l m) = Crc.more r l ^^^ Crc.more 0#16 m := by
  have hb : ∀ a b : Nat, Crc.bitsOf (a ^^^ b) = List.zipWith Bool.xor (Crc.bitsOf a) (Crc.bitsOf b) := by
    intro a b; simp only [Crc.bitsOf, List.zipWith_cons_cons, List.zipWith_nil_left, Nat.testBit_xor]
  have hall : ∀ (l m : List Nat), l.length = m.length → Crc.bitsAll (List.zipWith (· ^^^ ·) l m) = List.zipWith Bool.xor (Crc.bitsAll l) (Crc.bitsAll m) := by
    intro l
    induction l with
    | nil => intro m h; cases m <;> simp_all [Crc.bitsAll]
    | cons a l ih =>
      intro m h
      cases m with
      | nil => simp at h
      | cons b m =>
        have := ih m (by simpa using h)
        simp only [Crc.bitsAll, List.zipWith_cons_cons, List.flatMap_cons] at *
        rw [this, hb, List.zipWith_append (by simp [Crc.bitsOf])]
  unfold Crc.more
  rw [hall l m h]
  have := Crc.run_lin (Crc.bitsAll l) (Crc.bitsAll m) r 0#16 (by rw [Crc.bitsAll_length, Crc.bitsAll_length, h])
  rw [← this]
  simp
theorem xor_lt256 (a b : Nat) (ha : a < 256) (hb : b < 256) : a ^^^ b < 256 := Nat.xor_lt_two_pow (n := 8) ha hb
theorem bs_mixed (s u : ByteArray) (h : s.size = u.size) : bs (strOfNums (mixed (bs s) (bs u) s.size)) = List.zipWith (· ^^^ ·) (bs s) (bs u) := by
  have hl : (bs s).length = (bs u).length := by rw [bs_length, bs_length, h]
  have h0 := mixed_all (bs s) (bs u) hl
  rw [bs_length] at h0
  rw [h0, bs_strOfNums]
  intro x hx
  obtain ⟨i, hi, rfl⟩ := List.mem_iff_getElem.1 hx
  simp only [List.getElem_zipWith]
  exact xor_lt256 _ _ (bs_lt s _ (List.getElem_mem _)) (bs_lt u _ (List.getElem_mem _))
theorem sum_unlike (s t u : ByteArray) (h1 : s.size = t.size) (h2 : s.size = u.size) :
    bits .xor .i64 (crcSum s) (crcSum (strOfNums (mixed (bs s) (bs u) s.size))) = bits .xor .i64 (crcSum t) (crcSum (strOfNums (mixed (bs t) (bs u) t.size))) := by
  unfold crcSum crcMore
  rw [bs_mixed s u h2, bs_mixed t u (by omega), unlike_pure _ _ (by rw [bs_length, bs_length, h2]), unlike_pure _ _ (by rw [bs_length, bs_length]; omega)]
  generalize Crc.more _ (bs s) = x
  generalize Crc.more _ (bs t) = y
  generalize Crc.more 0#16 (bs u) = z
  have hx := x.isLt; have hy := y.isLt; have h3 := (x ^^^ z).isLt; have h4 := (y ^^^ z).isLt
  rw [xor_i64 _ _ (by omega) (by omega), xor_i64 _ _ (by omega) (by omega), ← BitVec.toNat_xor, ← BitVec.toNat_xor, ← BitVec.xor_assoc, ← BitVec.xor_assoc, BitVec.xor_self, BitVec.xor_self]

set_option maxRecDepth 100000 in
set_option maxHeartbeats 1000000 in
theorem crcUnlike_walk (s t u : ByteArray) (w : World) (_hs : s.size ≤ 140737488351232) (_ht : t.size ≤ 140737488351232) (_hu : u.size ≤ 140737488351232) :
    Calls Try.prog 4 #[.string s, .string t, .string u] w fun e w' => e = .returned (.bool true) ∧ Below w.heap.size w w' := by
  clear _hs _ht _hu
  have hb0 := Below.refl w.heap.size w
  by_cases h1 : s.size ≤ 600 ∧ s.size = t.size ∧ s.size = u.size
  · obtain ⟨h1, h2, h3⟩ := h1
    have HE := Lib.hid (sum_unlike s t u h2 h3)
    obtain ⟨n, hn⟩ : ∃ n, n = s.size := ⟨_, rfl⟩
    have HN := Lib.hid hn
    have hsn : n = s.size := hn
    have kb : ∀ (W : World) (x : ByteArray), (convert 9 26 (.string x)).run Try.prog W = .ok (.slice (some ⟨W.heap.size, 0, none⟩) x.size (grownCap W x.size 0 5)) (Lib.bytesWorld W 5 x) :=
      fun W x => Lib.run_convert_string_bytes W 9 26 5 x Try.underlying9 Try.underlying26 Try.underlying5
    have hne1 : ((s.size : Int) != (t.size : Int)) = false := by rw [h2]; simp
    have hne2 : ((s.size : Int) != (u.size : Int)) = false := by rw [h3]; simp
    have HL := Lib.hid (And.intro h2 h3)
    clear h2 h3 hn hsn
    go_enter Try.func4, Try.ntmps4
    go_wp2_with (go_at_call 14; refine (on_base (by assumption) (awake_is _)).mono ?_; rintro e w1 ⟨rfl, hb1⟩)
    have hz1 : w.heap.size ≤ w1.heap.size := hb1.size
    obtain ⟨ba, hba⟩ : ∃ b, b = w1.heap.size := ⟨_, rfl⟩
    obtain ⟨bb, hbb⟩ : ∃ b, b = (Lib.bytesWorld w1 5 s).heap.size := ⟨_, rfl⟩
    have hab : ba < bb := by rw [hba, hbb, Lib.bytesWorld_size]; omega
    have hA0 : Row (Lib.bytesWorld (Lib.bytesWorld w1 5 s) 5 t) ba .u8 (mixed (bs s) (bs u) 0) := by
      rw [mixed_zero, hba]; exact (row_bytesWorld w1 5 s).below (below_bytesWorld (Below.refl _ _) (Nat.le_refl _) 5 t)
    have hB0 : Row (Lib.bytesWorld (Lib.bytesWorld w1 5 s) 5 t) bb .u8 (mixed (bs t) (bs u) 0) := by
      rw [mixed_zero, hbb]; exact row_bytesWorld _ 5 t
    have hW0 : Below w.heap.size w (Lib.bytesWorld (Lib.bytesWorld w1 5 s) 5 t) :=
      below_bytesWorld (below_bytesWorld hb1 hz1 5 s) (by rw [Lib.bytesWorld_size]; omega) 5 t
    have hwa : w.heap.size ≤ ba := by omega
    rw [← hba, ← hbb]
    clear hba hbb hz1 hb1
    generalize Lib.bytesWorld (Lib.bytesWorld w1 5 s) 5 t = W0 at *
    go_loopw [9] (fun i wr => ∃ k : Nat, k ≤ n ∧ i = .int .i64 k ∧ Row wr ba .u8 (mixed (bs s) (bs u) k) ∧ Row wr bb .u8 (mixed (bs t) (bs u) k) ∧ Below w.heap.size w wr) (fun i _ => n - (intOf i).toNat)
    case atStart => exact ⟨0, Nat.zero_le _, rfl, hA0, hB0, hW0⟩
    case round =>
      clear hA0 hB0 hW0
      obtain ⟨k, hk, rfl, hA, hB, hb⟩ := hrel
      have e0 := HN.out
      have e1 := HL.out.1
      have e2 := HL.out.2
      by_cases hlt : k < s.size
      · have hlt2 : k < t.size := by omega
        have hlt3 : k < u.size := by omega
        have hcA : wr.cell? ⟨ba, k, none⟩ = some (.int .u8 ((s[k]'hlt).toNat : Int)) := by
          rw [hA.at_ k (by rw [mixed_length _ _ (by rw [bs_length, bs_length]; omega), bs_length]; exact hlt), mixed_at _ _ (by rw [bs_length, bs_length]; omega) k (by rw [bs_length]; exact hlt), bs_get s k hlt]
        have hfA : wr.frozen? ⟨ba, k, none⟩ = false := hA.free k (by rw [mixed_length _ _ (by rw [bs_length, bs_length]; omega), bs_length]; exact hlt)
        have hcB : wr.cell? ⟨bb, k, none⟩ = some (.int .u8 ((t[k]'hlt2).toNat : Int)) := by
          rw [hB.at_ k (by rw [mixed_length _ _ (by rw [bs_length, bs_length]; omega), bs_length]; exact hlt2), mixed_at _ _ (by rw [bs_length, bs_length]; omega) k (by rw [bs_length]; exact hlt2), bs_get t k hlt2]
        have hfB : wr.frozen? ⟨bb, k, none⟩ = false := hB.free k (by rw [mixed_length _ _ (by rw [bs_length, bs_length]; omega), bs_length]; exact hlt2)
        have hne : ¬ (ba = bb) := by omega
        have HAB := Lib.hid (And.intro hA hB)
        clear hA hB e0 e1 e2
        go_wp2
        go_region
        go_wp2
        go_region
        go_wp2
        have e0 := HN.out
        have e1 := HL.out.1
        have e2 := HL.out.2
        obtain ⟨hA, hB⟩ := HAB.out
        have xA : bits .xor .u8 ((s[k]'hlt).toNat : Int) ((u[k]'hlt3).toNat : Int) = (((s[k]'hlt).toNat ^^^ (u[k]'hlt3).toNat : Nat) : Int) := u8_xor_nat _ _ (s[k]'hlt).toNat_lt (u[k]'hlt3).toNat_lt
        have xB : bits .xor .u8 ((t[k]'hlt2).toNat : Int) ((u[k]'hlt3).toNat : Int) = (((t[k]'hlt2).toNat ^^^ (u[k]'hlt3).toNat : Nat) : Int) := u8_xor_nat _ _ (t[k]'hlt2).toNat_lt (u[k]'hlt3).toNat_lt
        go_roundw
        case rel =>
          refine ⟨k + 1, by omega, by go_num, ?_, ?_, ?_⟩
          · rw [mixed_succ _ _ (by rw [bs_length, bs_length]; omega) k (by rw [bs_length]; omega), bs_get s k hlt, bs_get u k hlt3, ← xA]
            exact ((hA.set k _ (by rw [mixed_length _ _ (by rw [bs_length, bs_length]; omega), bs_length]; exact hlt)).other _ _ (by simpa using hne)).drew.drew
          · rw [mixed_succ _ _ (by rw [bs_length, bs_length]; omega) k (by rw [bs_length]; omega), bs_get t k hlt2, bs_get u k hlt3, ← xB]
            exact ((hB.other _ _ (by simpa using fun h => hne h.symm)).set k _ (by rw [mixed_length _ _ (by rw [bs_length, bs_length]; omega), bs_length]; exact hlt2)).drew.drew
          · exact ((hb.setCell (by simpa using hwa) _).setCell (by simp; omega) _).drew.drew
        case measure => simp [intOf]; omega
      · obtain rfl : k = s.size := by omega
        have hge : u.size ≤ s.size := by omega
        have lA : (mixed (bs s) (bs u) s.size).length = s.size := by rw [mixed_length _ _ (by rw [bs_length, bs_length]; omega), bs_length]
        have lB : (mixed (bs t) (bs u) s.size).length = t.size := by rw [mixed_length _ _ (by rw [bs_length, bs_length]; omega), bs_length]
        have zA : (strOfNums (mixed (bs s) (bs u) s.size)).size ≤ 600 := by rw [strOfNums_size, lA]; omega
        have zB : (strOfNums (mixed (bs t) (bs u) s.size)).size ≤ 600 := by rw [strOfNums_size, lB]; omega
        have HE' : bits .xor .i64 (crcSum s) (crcSum (strOfNums (mixed (bs s) (bs u) s.size))) = bits .xor .i64 (crcSum t) (crcSum (strOfNums (mixed (bs t) (bs u) s.size))) := by
          have := HE.out; rwa [← e1] at this
        have kA := fun d os c => string_row (P := Try.prog) (cap := c) (row_regrown hA d os) lA 26 5 9 Try.underlying26 Try.underlying5 Try.underlying9
        have kB := fun d os c => string_row (P := Try.prog) (cap := c) (row_regrown hB d os) lB 26 5 9 Try.underlying26 Try.underlying5 Try.underlying9
        have h2 : t.size ≤ 600 := by omega
        clear hA hB e0 e1 e2 lA lB
        have cS : ∀ (x : ByteArray) d os, x.size ≤ 600 → Calls Try.prog 16 #[.string x] (grow (redrawn wr d) os) fun e w'' => e = .returned (.int .i64 (crcSum x)) ∧ ∃ p : Regrown, w'' = grow (redrawn wr p.d) p.os :=
          fun x d os hx => Calls.regrown_of (sum_is x (by omega) _)
        go_wp2
        refine wp_region_quiet_below (by kernel_rfl) (by kernel_rfl) ?_
        repeat (go_big_quiet_step (exact cS _ _ _ (by assumption)))
        refine wpQuiet_nil ?_
        intro _ hw'
        obtain ⟨⟨dq, osq⟩, hw''⟩ := hw'
        subst hw''
        go_wp2
        go_ret
        exact ⟨rfl, hb.trans ((below_regrown wr dq osq).mono hb.size)⟩
  · by_cases h2 : s.size ≤ 600
    · by_cases h3 : s.size = t.size
      · have hne1 : ((s.size : Int) != (t.size : Int)) = false := by rw [h3]; simp
        have hne2 : ((s.size : Int) != (u.size : Int)) = true := by simp; omega
        clear h1 h3
        go_enter Try.func4, Try.ntmps4
        go_wp2_with (go_at_call 14; refine (on_base (by assumption) (awake_is _)).mono ?_; rintro e w1 ⟨rfl, hb1⟩)
        go_ret
        exact ⟨rfl, by assumption⟩
      · have hne1 : ((s.size : Int) != (t.size : Int)) = true := by simp; omega
        clear h1 h3
        go_enter Try.func4, Try.ntmps4
        go_wp2_with (go_at_call 14; refine (on_base (by assumption) (awake_is _)).mono ?_; rintro e w1 ⟨rfl, hb1⟩)
        go_ret
        exact ⟨rfl, by assumption⟩
    · clear h1
      go_enter Try.func4, Try.ntmps4
      go_wp2_with (go_at_call 14; refine (on_base (by assumption) (awake_is _)).mono ?_; rintro e w1 ⟨rfl, hb1⟩)
      go_ret
      exact ⟨rfl, by assumption⟩
end Go.Proofs.Ythhfogpkaeminaa
