/- The walk of bch.Encode. -/
import Derived.Test.YthponlnklmhbeaaBchGenWalk
import Derived.Laws.CopyOwn
import Derived.StillTailTactics
import Derived.Deep.MidRow
set_option linter.unusedVariables false
set_option linter.unusedSimpArgs false
namespace Go.Proofs.Ythponlnklmhbeaa
open Go.RowKit Go.Sort F7
namespace F7
/-- The first k bits of a number, in their places. -/
def up (x k : Nat) : Nat → Bool := fun m => decide (63 ≤ m) && decide (m < 63 + k) && x.testBit (m - 63)
theorem up_zero (x : Nat) : up x 0 = fun _ => false := by
  funext m
  unfold up
  by_cases h : 63 ≤ m
  · have : ¬ m < 63 + 0 := by omega
    simp [this]
  · simp [h]
theorem up_step (x k : Nat) : up x (k + 1) = fun m => if m = 63 + k then x.testBit k else up x k m := by
  funext m
  unfold up
  by_cases e : m = 63 + k
  · subst e
    rw [if_pos rfl, Nat.add_sub_cancel_left]
    simp
  · rw [if_neg e]
    by_cases h : m < 63 + k
    · have : m < 63 + (k + 1) := by omega
      simp [h, this]
    · have : ¬ m < 63 + (k + 1) := by omega
      simp [h, this]
/-- k numbers of the generator taken away from place s on. -/
def subK (f : Nat → Bool) (s k : Nat) : Nat → Bool := fun m => f m != (decide (s ≤ m) && decide (m < s + k) && (GB.getD (m - s) 0 == 1))
theorem subK_zero (f : Nat → Bool) (s : Nat) : subK f s 0 = f := by
  funext m
  unfold subK
  by_cases h : s ≤ m
  · have : ¬ m < s := by omega
    simp [this]
  · simp [h]
theorem subK_at (f : Nat → Bool) (s k : Nat) : subK f s k (s + k) = f (s + k) := by
  unfold subK
  simp
theorem subK_step (f : Nat → Bool) (s k : Nat) : subK f s (k + 1) = fun m => if m = s + k then (f (s + k) != (GB.getD k 0 == 1)) else subK f s k m := by
  funext m
  unfold subK
  by_cases e : m = s + k
  · subst e
    rw [if_pos rfl, Nat.add_sub_cancel_left]
    simp
  · rw [if_neg e]
    by_cases h : m < s + k
    · have : m < s + (k + 1) := by omega
      simp [h, this]
    · have : ¬ m < s + (k + 1) := by omega
      simp [h, this]
theorem subK_all (f : Nat → Bool) (s : Nat) : subK f s 64 = sub f s := rfl
/-- j steps of the division. -/
def rd : Nat → (Nat → Bool) → Nat → Bool
  | 0, f => f
  | j + 1, f => if rd j f (126 - j) = true then sub (rd j f) (63 - j) else rd j f
theorem rd_syn (f : Nat → Bool) (j : Nat) (t : Nat) (h1 : 1 ≤ t) (h2 : t ≤ 20) : syn (rd j f) t = syn f t := by
  induction j with
  | zero => rfl
  | succ j ih =>
    rw [rd]; split
    · rw [sub_syn _ _ (by omega) t h1 h2, ih]
    · exact ih
theorem rd_high (f : Nat → Bool) (j : Nat) (hj : j ≤ 64) : ∀ m, 126 < m + j → m < 127 → rd j f m = false := by
  induction j with
  | zero => intro m h1 h2; omega
  | succ j ih =>
    intro m h1 h2
    rw [rd]
    split
    · rename_i hb
      unfold sub
      by_cases e : m = 126 - j
      · subst e
        rw [hb, show 126 - j - (63 - j) = 63 by omega]
        have h3 : 63 - j ≤ 126 - j := by omega
        have h4 : 126 - j < 63 - j + 64 := by omega
        have h5 : (GB.getD 63 0 == 1) = true := by decide
        rw [h5]
        simp [h3, h4]
      · have h3 : rd j f m = false := ih (by omega) m (by omega) h2
        have h4 : ¬ m < 63 - j + 64 := by omega
        rw [h3]
        simp [h4]
    · rename_i hb
      by_cases e : m = 126 - j
      · subst e
        cases h : rd j f (126 - j)
        · rfl
        · exact absurd h hb
      · exact ih (by omega) m (by omega) h2
/-- The codeword of a number. -/
def enc (x : Nat) : Nat → Bool := fun m => if m < 63 then rd 64 (up x 64) m else up x 64 m
theorem enc_cw (x : Nat) : Cw (enc x) := by
  have h : ∀ i, i < 127 → enc x i = (up x 64 i != rd 64 (up x 64) i) := by
    intro i hi
    unfold enc
    by_cases h : i < 63
    · have : up x 64 i = false := by unfold up; have : ¬ 63 ≤ i := by omega
                                     simp [this]
      rw [if_pos h, this]; simp
    · rw [if_neg h, rd_high (up x 64) 64 (Nat.le_refl _) i (by omega) hi]; simp
  intro t h1 h2
  rw [syn_congr h, syn_xor, rd_syn _ _ t h1 h2, Nat.xor_self]
theorem enc_bit (x i : Nat) (hi : i < 64) : enc x (63 + i) = x.testBit i := by
  unfold enc up
  rw [if_neg (by omega), Nat.add_sub_cancel_left]
  have : 63 + i < 63 + 64 := by omega
  simp [this]
theorem enc_unique {c : Nat → Bool} {x : Nat} (hc : Cw c) (h : ∀ i, i < 64 → c (63 + i) = x.testBit i) : ∀ i, i < 127 → c i = enc x i :=
  hc.unique (enc_cw x) fun i h1 h2 => by
    have := h (i - 63) (by omega)
    rw [show 63 + (i - 63) = i by omega] at this
    have h3 := enc_bit x (i - 63) (by omega)
    rw [show 63 + (i - 63) = i by omega] at h3
    rw [this, h3]
end F7
/-- The blocks of Encode. -/
structure Ec (w0 w : World) (r a c g : Nat) (fa fc : Nat → Bool) : Prop where
  word : Wd 41 w a fa
  rest : Wd 41 w c fc
  res : Wd 41 w r fun _ => false
  row : Row w g .i64 (casts GB)
  below : Below w0.heap.size w0 w
  new : w0.heap.size ≤ r ∧ w0.heap.size ≤ a ∧ w0.heap.size ≤ c
  ne : r ≠ a ∧ r ≠ c ∧ a ≠ c ∧ g ≠ a ∧ g ≠ c
theorem Ec.setA {w0 w : World} {r a c g : Nat} {fa fc : Nat → Bool} (h : Ec w0 w r a c g fa fc) (i : Nat) (x : Bool) : Ec w0 (w.setCell ⟨a, i, none⟩ (.bool x)) r a c g (fun m => if m = i then x else fa m) fc := by
  have hk := Keep.setCell w ⟨a, i, none⟩ (.bool x) [a] (by simp)
  obtain ⟨n1, n2, n3, n4, n5⟩ := h.ne
  exact ⟨h.word.set i x, h.rest.keep hk (by simpa using fun e => n3 e.symm), h.res.keep hk (by simpa using n1), h.row.other ⟨a, i, none⟩ _ n4, below_gb h.below (gb_setCell _ ⟨a, i, none⟩ _) h.below.size h.new.2.1, h.new, h.ne⟩
theorem Ec.setC {w0 w : World} {r a c g : Nat} {fa fc : Nat → Bool} (h : Ec w0 w r a c g fa fc) (i : Nat) (x : Bool) : Ec w0 (w.setCell ⟨c, i, none⟩ (.bool x)) r a c g fa (fun m => if m = i then x else fc m) := by
  have hk := Keep.setCell w ⟨c, i, none⟩ (.bool x) [c] (by simp)
  obtain ⟨n1, n2, n3, n4, n5⟩ := h.ne
  exact ⟨h.word.keep hk (by simpa using n3), h.rest.set i x, h.res.keep hk (by simpa using n2), h.row.other ⟨c, i, none⟩ _ n5, below_gb h.below (gb_setCell _ ⟨c, i, none⟩ _) h.below.size h.new.2.2, h.new, h.ne⟩
theorem row_setRow {w : World} {b g : Nat} {k : IntKind} {xs : List Int} (h : Row w b k xs) (cs : Array Value) (hne : b ≠ g) : Row (w.setRow g cs) b k xs :=
  h.of_block (setRow_other w g b cs hne) (by rw [size_setRow]; exact h.lt)
theorem Ec.rowC {w0 w : World} {r a c g : Nat} {fa fc : Nat → Bool} (h : Ec w0 w r a c g fa fc) (f : Nat → Bool) : Ec w0 (w.setRow c (wordV f)) r a c g fa f := by
  have hk := Keep.setRow w c (wordV f) [c] (by simp)
  obtain ⟨n1, n2, n3, n4, n5⟩ := h.ne
  exact ⟨h.word.keep hk (by simpa using n3), setRow_heap w c _ _ 41 _ h.rest, h.res.keep hk (by simpa using n2), row_setRow h.row _ n5, hk.below h.below (by intro j hj; rw [List.mem_singleton] at hj; rw [hj]; exact h.new.2.2), h.new, h.ne⟩
theorem Ec.rowA {w0 w : World} {r a c g : Nat} {fa fc : Nat → Bool} (h : Ec w0 w r a c g fa fc) (f : Nat → Bool) : Ec w0 (w.setRow a (wordV f)) r a c g f fc := by
  have hk := Keep.setRow w a (wordV f) [a] (by simp)
  obtain ⟨n1, n2, n3, n4, n5⟩ := h.ne
  exact ⟨setRow_heap w a _ _ 41 _ h.word, h.rest.keep hk (by simpa using fun e => n3 e.symm), h.res.keep hk (by simpa using n1), row_setRow h.row _ n4, hk.below h.below (by intro j hj; rw [List.mem_singleton] at hj; rw [hj]; exact h.new.2.1), h.new, h.ne⟩
theorem Ec.drewN {w0 w : World} {r a c g : Nat} {fa fc : Nat → Bool} (h : Ec w0 w r a c g fa fc) (k : Nat) : Ec w0 (w.drewN k) r a c g fa fc :=
  ⟨h.word, h.rest, h.res, h.row.below (below_drewN w k), h.below.trans ((below_drewN w k).mono h.below.size), h.new, h.ne⟩
theorem Ec.done {w0 w : World} {r a c g : Nat} {fa fc : Nat → Bool} (h : Ec w0 w r a c g fa fc) (f : Nat → Bool) : (w.setRow r (wordV f)).heap[r]? = some (.cells (wordV f) 41 (0, 0)) ∧ Below w0.heap.size w0 (w.setRow r (wordV f)) :=
  ⟨setRow_heap w r _ _ 41 _ h.res, (Keep.setRow w r _ [r] (by simp)).below h.below (by intro j hj; rw [List.mem_singleton] at hj; rw [hj]; exact h.new.1)⟩
theorem bit_u64 (x k : Nat) (hx : x < 2 ^ 64) (hk : k < 64) : (bits BinOp.and IntKind.u64 ((x : Int) / 2 ^ k) 1 == 1) = x.testBit k := by
  have e : (x : Int) / 2 ^ k = ((x / 2 ^ k : Nat) : Int) := by rw [Int.natCast_ediv, Int.natCast_pow]; rfl
  have h := and_u64 (x / 2 ^ k) 1 (Nat.lt_of_le_of_lt (Nat.div_le_self _ _) hx) (by decide)
  rw [e, show (1 : Int) = ((1 : Nat) : Int) from rfl, h, Nat.and_one_is_mod, Nat.testBit_eq_decide_div_mod_eq]
  rw [Bool.eq_iff_iff]
  simp only [beq_iff_eq, decide_eq_true_eq]
  exact ⟨fun h => by omega, fun h => by omega⟩
theorem copy_word (f h : Nat → Bool) : ((wordV f).toList.take 0 ++ (((List.range 63).map fun i => Value.bool (h i)) ++ (wordV f).toList.drop (0 + 63))).toArray = wordV fun m => if m < 63 then h m else f m := by
  unfold wordV
  rw [List.take_zero, List.nil_append, Nat.zero_add]
  congr 1
set_option maxRecDepth 100000 in
set_option maxHeartbeats 3200000 in
theorem encode_is (x : Nat) (hx : x < 2 ^ 64) (w : World) : Calls Try.prog 32 #[.int .u64 x] w fun e w' => e = .returned (.agg (wordV (enc x))) ∧ Below w.heap.size w w' := by
  have hz := zero41
  have hgen := fun w => generator_is w
  have HX := Lib.hid hx
  clear hx
  go_enter Try.func32, Try.ntmps32
  go_upto_region 3 with (first | (go_at_call 29; (with_reducible refine (hgen _).mono ?_); rintro e w1 ⟨g, cap, rfl, hr, hb, hg⟩; have HG := Lib.hid (And.intro hr (And.intro hb hg)); clear hr hb hg hgen))
  obtain ⟨W0, hW0⟩ : ∃ W0, W0 = (w1.alloc (.cells (wordV fun _ => false) 41)).alloc (.cells (wordV fun _ => false) 41) := ⟨_, rfl⟩
  have hE : Hid (Ec w W0 w.heap.size w1.heap.size (w1.heap.size + 1) g (up x 0) fun _ => false) := by
    show Ec w W0 _ _ _ _ _ _
    obtain ⟨hr, hb, hg⟩ := HG.out
    have hbw : Below w.heap.size w w1 := by
      refine (show Below w.heap.size w (w.alloc (.cells (wordV fun _ => false) 41)) from (Below.refl _ _).alloc (Nat.le_refl _) _).trans (hb.mono (by simp))
    have hb2 : Below w1.heap.size w1 W0 := by rw [hW0]; exact ((Below.refl _ _).alloc (Nat.le_refl _) _).alloc (by simp) _
    have hgs := hr.lt
    have h1 : w.heap.size < w1.heap.size := by have := hb.size; simp at this; omega
    have hg' : w.heap.size + 1 ≤ g := by simpa using hg
    refine ⟨?_, ?_, ?_, hr.below hb2, hbw.trans (hb2.mono hbw.size), ⟨Nat.le_refl _, hbw.size, by have := hbw.size; omega⟩, by omega, by omega, by omega, by omega, by omega⟩
    · rw [up_zero, hW0]
      exact (Wd.boxed w1 41 _).below ((Below.refl _ _).alloc (Nat.le_refl _) _)
    · have := Wd.boxed (w1.alloc (.cells (wordV fun _ => false) 41)) 41 (fun _ => false)
      rw [World.size_alloc] at this
      rw [hW0]; exact this
    · exact ((Wd.boxed w 41 _).below hb).below hb2
  rw [← hW0]
  generalize w1.heap.size = a at *
  obtain ⟨r, hr⟩ : ∃ r, r = w.heap.size := ⟨_, rfl⟩
  rw [← hr] at hE
  rw [← hr]
  generalize a + 1 = c at *
  clear hW0 HG hz hr
  go_wp2_with fail
  go_loopw [11] (fun i wr => ∃ k : Nat, k ≤ 64 ∧ i = .int .i64 k ∧ Hid (Ec w wr r a c g (up x k) fun _ => false)) (fun i _ => 64 - (intOf i).toNat)
  case atStart => exact ⟨0, by omega, rfl, hE⟩
  case round =>
    clear hE
    obtain ⟨k, hk, rfl, hA⟩ := hrel
    obtain ⟨wo, rfl⟩ : ∃ wo : World, wo = wr := ⟨_, rfl⟩
    by_cases hlt : k < 64
    · have hbit := bit_u64 x k HX.out hlt
      have hc := hA.out.word.cell (63 + k) (by omega)
      have hf := hA.out.word.free (63 + k)
      obtain ⟨T, hT⟩ : ∃ T, T = x.testBit k := ⟨_, rfl⟩
      have hN : Hid (Ec w (wo.setCell ⟨a, 63 + k, none⟩ (.bool T)) r a c g (up x (k + 1)) fun _ => false) := by
        show Ec w _ r a c g _ _
        rw [up_step, ← hT]; exact hA.out.setA (63 + k) T
      rw [← hT] at hbit
      clear hA hT
      go_wp2_with fail
      go_roundw
      case rel => exact ⟨k + 1, by omega, by go_num, hN⟩
      case measure => simp [intOf]; omega
    · obtain rfl : k = 64 := by omega
      have hw4 := hA.out.word
      have hw5 := hA.out.rest
      have hsz := Lib.hid (size41 (up x 64))
      have hold : Hid ((wordV fun _ => false).size = (wordV (up x 64)).size) := by show (wordV _).size = (wordV _).size; rw [wordV_size, wordV_size]
      have hE2 := Lib.hid (hA.out.rowC (up x 64))
      clear hA
      go_upto_region 9 with (first | (refine wpList_load_row rfl 41 _ rfl a rfl 41 (wordV (up x 64)) (0, 0) _ hw4 Try.underlying41 rfl hsz.out ?_) | (refine wpList_store_row rfl 41 _ _ rfl c (wordV (up x 64)) rfl rfl 41 _ hw5 hsz.out hold.out (wordV_one (up x 64)) ?_))
      generalize wo.setRow c (wordV (up x 64)) = W2 at *
      clear hw4 hw5 hsz hold
      go_wp2_with fail
      go_loopw [7] (fun i wr => ∃ I : Nat, 62 ≤ I ∧ I ≤ 126 ∧ i = .int .i64 I ∧ Hid (Ec w wr r a c g (up x 64) (rd (126 - I) (up x 64)))) (fun i _ => (intOf i - 62).toNat)
      case atStart => exact ⟨126, by omega, by omega, rfl, hE2⟩
      case round =>
        clear hE2
        obtain ⟨I, hI1, hI2, rfl, hA⟩ := hrel
        obtain ⟨wo, rfl⟩ : ∃ wo : World, wo = wr := ⟨_, rfl⟩
        by_cases hlt : 63 ≤ I
        · have hnx : rd (126 - (I - 1)) (up x 64) = if rd (126 - I) (up x 64) I = true then sub (rd (126 - I) (up x 64)) (I - 63) else rd (126 - I) (up x 64) := by
            rw [show 126 - (I - 1) = (126 - I) + 1 by omega, rd, show 126 - (126 - I) = I by omega, show 63 - (126 - I) = I - 63 by omega]
          obtain ⟨f, hf⟩ : ∃ f, f = rd (126 - I) (up x 64) := ⟨_, rfl⟩
          rw [← hf] at hnx hA
          have hc := hA.out.rest.cell I (by omega)
          have hdn : Value.int .i64 ((I : Int) - 1) = .int .i64 ((I - 1 : Nat) : Int) := by rw [show ((I - 1 : Nat) : Int) = (I : Int) - 1 by omega]
          have HDN := Lib.hid hdn
          clear hdn
          cases hb : f I with
          | true =>
            rw [hb] at hc hnx
            rw [if_pos rfl] at hnx
            have HNX := Lib.hid hnx
            obtain ⟨s, hs⟩ : ∃ s, s = I - 63 := ⟨_, rfl⟩
            have hs1 : (I : Int) - 63 = (s : Int) := by omega
            have hs2 : s ≤ 63 := by omega
            rw [← hs] at HNX
            have hA0 : Hid (Ec w wo r a c g (up x 64) (subK f s 0)) := by show Ec w wo _ _ _ _ _ _; rw [subK_zero]; exact hA.out
            clear hf hnx hb hs hA
            go_wp2_with fail
            go_loopw [34] (fun j wr => ∃ m : Nat, m ≤ 64 ∧ j = .int .i64 m ∧ Hid (Ec w wr r a c g (up x 64) (subK f s m))) (fun j _ => 64 - (intOf j).toNat)
            case atStart => exact ⟨0, by omega, rfl, hA0⟩
            case round =>
              clear hA0
              obtain ⟨m, hm, rfl, hI⟩ := hrel
              by_cases hml : m < 64
              · have hg1 := hI.out.row.at_ m (by rw [casts_length]; exact hml)
                rw [casts_get] at hg1
                have hc1 := hI.out.rest.cell (s + m) (by omega)
                rw [subK_at] at hc1
                have hf1 := hI.out.rest.free (s + m)
                obtain ⟨G, hG⟩ : ∃ G, G = GB.getD m 0 := ⟨_, rfl⟩
                obtain ⟨E, hE⟩ : ∃ E, E = (GB.getD m 0 == 1) := ⟨_, rfl⟩
                obtain ⟨V, hV⟩ : ∃ V, V = f (s + m) := ⟨_, rfl⟩
                have hGE : ((G : Int) == 1) = E := by
                  rw [hE, ← hG, Bool.eq_iff_iff]
                  simp only [beq_iff_eq]
                  omega
                have hst := subK_step f s m
                rw [← hE, ← hV] at hst
                rw [← hG] at hg1
                rw [← hV] at hc1
                have hN : Hid (Ec w (wr.setCell ⟨c, s + m, none⟩ (.bool (V != E))) r a c g (up x 64) (subK f s (m + 1))) := by
                  show Ec w _ r a c g _ _
                  rw [hst]; exact hI.out.setC (s + m) (V != E)
                clear hG hE hV hst hI
                go_wp2_with fail
                go_roundw
                case rel => exact ⟨m + 1, by omega, by go_num, hN⟩
                case measure => simp [intOf]; omega
              · obtain rfl : m = 64 := by omega
                have hA1 : Hid (Ec w wr r a c g (up x 64) (rd (126 - (I - 1)) (up x 64))) := by show Ec w wr _ _ _ _ _ _; rw [HNX.out]; exact hI.out
                clear hI
                go_wp2_with fail
                go_roundw
                case rel => exact ⟨I - 1, by omega, by omega, by rw [HDN.out], hA1⟩
                case measure => simp [intOf]; omega
          | false =>
            rw [hb] at hc hnx
            have hA1 : Hid (Ec w wo r a c g (up x 64) (rd (126 - (I - 1)) (up x 64))) := by show Ec w wo _ _ _ _ _ _; rw [hnx]; exact hA.out
            clear hf hnx hb hA
            go_wp2_with fail
            go_roundw
            case rel => exact ⟨I - 1, by omega, by omega, by rw [HDN.out], hA1⟩
            case measure => simp [intOf]; omega
        · obtain rfl : I = 62 := by omega
          have hA' := hA
          obtain ⟨ff, hff⟩ : ∃ ff, ff = rd 64 (up x 64) := ⟨_, rfl⟩
          rw [show 126 - 62 = 64 from rfl, ← hff] at hA
          have hen : (fun m => if m < 63 then ff m else up x 64 m) = enc x := by funext m; unfold enc; rw [hff]
          have hcp := copy_word (up x 64) ff
          rw [hen] at hcp
          have HCP := Lib.hid hcp
          have hsz := Lib.hid (size41 (enc x))
          clear hA' hff hen hcp
          go_wp2_with fail
          refine wp_region_quiet_tail 2 (by kernel_rfl) (by kernel_rfl) ?_
          simp only [List.take_succ_cons, List.take_zero, List.drop_succ_cons, List.drop_zero]
          repeat (go_big_quiet_step (fail))
          refine wpQuiet_nil ?_
          intro _ hw'
          obtain ⟨nq, hw''⟩ := hw'
          subst hw''
          have hB := Lib.hid (hA.out.drewN nq)
          clear hA
          generalize wo.drewN nq = W5 at *
          have hrow := hB.out.word
          have hsrc : ∀ j v, ((List.range 63).map fun i => Value.bool (ff i))[j]? = some v → W5.cell? (Addr.add ⟨c, 0, none⟩ j) = some v := by
            intro j v hv
            have hj : j < 63 := by
              have := (List.getElem?_eq_some_iff.1 hv).1
              simpa using this
            rw [Addr.add_mid, Nat.zero_add, hB.out.rest.cell j (by omega)]
            simpa [hj] using hv
          have HSRC := Lib.hid hsrc
          have hE5 := Lib.hid (hB.out.rowA (enc x))
          clear hsrc hB
          refine wpList_copy_own rfl (.tmp 54) (.tmp 55) 59 59 rfl 4 Try.underlying59 (by kernel_rfl) a 0 63 127 ⟨c, 0, none⟩ 63 127 rfl rfl (wordV (up x 64)) 41 hrow ((List.range 63).map fun i => Value.bool (ff i)) (by simp) HSRC.out (by rw [wordV_size]; simp) (by simp [Value.oneCell']) ?_
          rw [List.length_map, List.length_range, HCP.out]
          clear hrow HSRC
          generalize W5.setRow a (wordV (enc x)) = W6 at *
          have hw4 := hE5.out.word
          have hres := hE5.out.res
          obtain ⟨h1, h2⟩ := hE5.out.done (enc x)
          have HD := Lib.hid (And.intro h1 h2)
          have hold : Hid ((wordV fun _ => false).size = (wordV (enc x)).size) := by show (wordV _).size = (wordV _).size; rw [wordV_size, wordV_size]
          clear hE5 h1 h2
          go_wp2_with (first | (refine wpList_load_row rfl 41 _ rfl a rfl 41 (wordV (enc x)) (0, 0) _ hw4 Try.underlying41 rfl hsz.out ?_) | (refine wpList_store_row rfl 41 _ _ rfl r (wordV (enc x)) rfl rfl 41 _ hres hsz.out hold.out (wordV_one (enc x)) ?_))
          exact bodyPost_ret (v := .agg (wordV (enc x))) (results_cell_row Try.results32 _ _ r 41 _ (0, 0) _ rfl HD.out.1 Try.underlying41 rfl hsz.out) rfl ⟨rfl, HD.out.2⟩
end Go.Proofs.Ythponlnklmhbeaa
