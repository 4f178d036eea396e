/- The walks of the document's lists of bits: Fits, Bits, Bytes. -/
import Derived.Test.YthhfogpkaeminaaBitsPut
import Derived.Laws.MakeOwn
import Derived.Deep.OwnRows
namespace Go.Proofs.Ythhfogpkaeminaa
open Go.RowKit Go.Sort
theorem info3 : (Try.prog.info? 3).map (fun i => (i.zero, i.size, i.bytes)) = some (some (.int .i64 0), 1, 8) := by kernel_rfl
/-- make([]int, n). -/
theorem make_ints (m : Nat) (hm : m ≤ 1000000) : ∀ W : World, (Instr.makeSlice 38 (.int .i64 (m : Int)) (.int .i64 (m : Int))).run Try.prog W = .ok (.slice (some ⟨W.heap.size, 0, none⟩) m m) (W.alloc (.cells (madeCells #[.int .i64 0] m) 3)) := by
  intro W
  exact run_make_row' 38 3 (.int .i64 0) 8 Try.underlying38 info3 rfl .i64 .i64 m (by omega) (by omega) W
theorem own_made (W : World) (e : TypeId) (k : IntKind) (m : Nat) (hm : m ≤ 1000000) : Own (W.alloc (.cells (madeCells #[.int k 0] m) e)) e k (.slice (some ⟨W.heap.size, 0, none⟩) m m) (List.replicate m 0) := by
  have h := World.ownsRow_lit (base := 0) (e := e) (size := 1) W (madeCells #[.int k 0] m) m (Nat.zero_le _) (by simp only [maxLen]; omega) (by simp [size_madeCells])
  have hl : (madeCells #[Value.int k 0] m).toList = (List.replicate m (0 : Int)).map (Value.int k) := by
    apply List.ext_getElem
    · simp [madeCells]
    · intro i h1 h2
      simp [madeCells, Nat.mod_one]
  unfold Own
  rw [List.length_replicate, ← hl]
  exact h

def b2i (b : Bool) : Int := if b then 1 else 0
def bools (l : List Bool) : List Int := l.map b2i
theorem bools_length (l : List Bool) : (bools l).length = l.length := by simp [bools]
theorem bools_append (l m : List Bool) : bools (l ++ m) = bools l ++ bools m := by simp [bools]
theorem bools_getD (l : List Bool) (i : Nat) : (bools l).getD i 0 = b2i (l.getD i false) := by
  simp only [bools, List.getD_eq_getElem?_getD, List.getElem?_map]
  cases l[i]? <;> rfl
theorem b2i_range (b : Bool) : 0 ≤ b2i b ∧ b2i b ≤ 1 := by cases b <;> simp [b2i]

set_option maxRecDepth 100000 in
theorem fits_is (x : Int) (N : Nat) (hN : N ≤ 56) (r : Bool) (hr : r = decide (0 ≤ x ∧ x < 2 ^ N)) (w : World) :
    Calls Try.prog 21 #[.int .i64 x, .int .i64 N] w fun e w' => e = .returned (.bool r) ∧ w = w' := by
  have HR := Lib.hid hr
  clear hr
  go_enter Try.func21, Try.ntmps21
  go_wp2
  go_loop [5, 6] (fun t i => ∃ k : Nat, k ≤ N ∧ i = .int .i64 k ∧ t = .int .i64 ((2 ^ k : Nat) : Int)) (fun _ i => N - (intOf i).toNat)
  case atStart => exact ⟨0, Nat.zero_le _, rfl, rfl⟩
  case round =>
    obtain ⟨k, hk, rfl, rfl⟩ := hrel
    obtain ⟨q, hq⟩ : ∃ q : Nat, q = 2 ^ k := ⟨_, rfl⟩
    have hqle : q ≤ 72057594037927936 := by rw [hq]; exact Nat.pow_le_pow_right (j := 56) (by decide) (by omega)
    rw [← hq]
    have HQ := Lib.hid hq
    clear hq
    by_cases hlt : k < N
    · go_wp2
      go_round
      case rel => exact ⟨k + 1, by omega, by go_num, by rw [Nat.pow_succ, ← HQ.out]; go_num⟩
      case measure => simp [intOf]; omega
    · obtain rfl : k = N := by omega
      have e2 : ((2 : Int) ^ k) = (q : Int) := by rw [HQ.out, Int.natCast_pow]; rfl
      have hr := HR.out
      rw [e2] at hr
      by_cases h0 : 0 ≤ x
      · by_cases h1 : x < q
        · rw [decide_eq_true ⟨h0, h1⟩] at hr
          subst hr
          go_wp2
          go_ret
          exact ⟨rfl, rfl⟩
        · rw [decide_eq_false (fun h => h1 h.2)] at hr
          subst hr
          go_wp2
          go_ret
          exact ⟨rfl, rfl⟩
      · rw [decide_eq_false (fun h => h0 h.1)] at hr
        subst hr
        go_wp2
        go_ret
        exact ⟨rfl, rfl⟩

/-- The list behind j digits: zeros, then the low ones. -/
def lowBits (X N j : Nat) : List Int := List.replicate (N - j) 0 ++ bools ((Bits.bitsN X N).drop (N - j))
theorem lowBits_length (X N j : Nat) (hj : j ≤ N) : (lowBits X N j).length = N := by
  have _h := hj
  simp [lowBits, bools_length, Bits.bitsN_length]
theorem lowBits_succ (X N j : Nat) (hj : j < N) : lowBits X N (j + 1) = (lowBits X N j).set (N - 1 - j) (((X / 2 ^ j % 2 : Nat)) : Int) := by
  have e : N - j = (N - (j + 1)) + 1 := by omega
  have e2 : N - 1 - j = N - (j + 1) := by omega
  have hb : b2i (X.testBit j) = ((X / 2 ^ j % 2 : Nat) : Int) := by
    rw [Nat.testBit_eq_decide_div_mod_eq]
    have := Nat.mod_two_eq_zero_or_one (X / 2 ^ j)
    rcases this with h | h <;> rw [h] <;> rfl
  unfold lowBits
  rw [List.drop_eq_getElem_cons (show N - (j + 1) < (Bits.bitsN X N).length by rw [Bits.bitsN_length]; omega), Bits.bitsN_get _ _ _ (by omega), ← e, e2, List.set_append_left _ _ (by simp; omega), e, List.replicate_succ']
  rw [List.set_append_right _ _ (by simp)]
  simp only [List.length_replicate, Nat.sub_self, List.set_cons_zero, List.append_assoc]
  congr 1
  have e3 : N - 1 - (N - (j + 1)) = j := by omega
  rw [e3]
  simp [bools, hb]
theorem lowBits_all (X N : Nat) : lowBits X N N = bools (Bits.bitsN X N) := by simp [lowBits]
theorem lowBits_zero (X N : Nat) : lowBits X N 0 = List.replicate N 0 := by
  simp only [lowBits, Nat.sub_zero]
  rw [List.drop_eq_nil_of_le (by rw [Bits.bitsN_length]; omega)]
  simp [bools]
set_option maxRecDepth 100000 in
theorem refBits_is (X N : Nat) (hN : N ≤ 56) (hX : X < 72057594037927936) (w : World) :
    Calls Try.prog 22 #[.int .i64 X, .int .i64 N] w fun e w' => ∃ v, e = .returned v ∧ Own w' 3 .i64 v (bools (Bits.bitsN X N)) ∧ Below w.heap.size w w' ∧ ∀ j ∈ foot v, w.heap.size ≤ j := by
  have hmk := make_ints N (by omega)
  have hown := own_made w 3 .i64 N (by omega)
  have HX := Lib.hid hX
  clear hX
  go_enter Try.func22, Try.ntmps22
  go_wp2
  go_loopw [0, 6] (fun x i wr => ∃ j : Nat, j ≤ N ∧ i = .int .i64 ((N : Int) - 1 - j) ∧ x = .int .i64 ((X / 2 ^ j : Nat) : Int) ∧ Own wr 3 .i64 (.slice (some ⟨w.heap.size, 0, none⟩) (lowBits X N j).length N) (lowBits X N j) ∧ Below w.heap.size w wr) (fun _ i _ => (intOf i + 1).toNat)
  case atStart => exact ⟨0, by omega, by go_num, by simp, by rw [lowBits_zero, List.length_replicate]; exact hown, (Below.refl _ _).alloc (Nat.le_refl _) _⟩
  case round =>
    clear hmk hown
    obtain ⟨j, hj, rfl, rfl, ho, hb⟩ := hrel
    obtain ⟨q, hq⟩ : ∃ q : Nat, q = X / 2 ^ j := ⟨_, rfl⟩
    have hqle : q < 72057594037927936 := by
      have h1 : X / 2 ^ j ≤ X := Nat.div_le_self _ _
      have h2 := HX.out
      omega
    rw [← hq]
    have HQ := Lib.hid hq
    clear hq
    have hlen := lowBits_length X N j hj
    rw [hlen] at ho
    by_cases hlt : j < N
    · obtain ⟨m, hm⟩ : ∃ m : Nat, (N : Int) - 1 - j = m := ⟨N - 1 - j, by omega⟩
      have hmN : m < N := by omega
      have hs := (show Own wr 3 .i64 (.slice (some ⟨w.heap.size, 0, none⟩) (lowBits X N j).length N) (lowBits X N j) by rw [hlen]; exact ho)
      have hc := hs.at_ m (by omega)
      have hf := hs.free m
      have HS := Lib.hid hs
      have HL := Lib.hid hlen
      clear ho hs hlen
      go_wp2
      go_roundw
      case rel =>
        have hq := HQ.out
        have h2 : X / 2 ^ (j + 1) = q / 2 := by rw [hq, Nat.pow_succ, Nat.div_div_eq_div_mul]
        have hss := HS.out.set m ((q % 2 : Nat) : Int)
        have hm' : N - 1 - j = m := by omega
        rw [hq, ← hm', ← lowBits_succ X N j hlt] at hss
        refine ⟨j + 1, by omega, by go_num, by rw [h2]; go_num, ?_, hb.setCell (by simp) _⟩
        rw [← hm', hq]
        exact hss
      case measure => simp [intOf]; omega
    · obtain rfl : j = N := by omega
      rw [lowBits_all] at ho
      have hl : (bools (Bits.bitsN X j)).length = j := by rw [bools_length, Bits.bitsN_length]
      go_wp2
      go_ret
      refine ⟨.slice (some ⟨w.heap.size, 0, none⟩) j j, rfl, ho, hb, ?_⟩
      intro i hi
      simp [foot, Value.ownBlock] at hi
      omega

def horner (f : Nat → Bool) : Nat → Nat
  | 0 => 0
  | k + 1 => 2 * horner f k + (f k).toNat
theorem horner_8 (f : Nat → Bool) : horner f 8 = Bits.byte8 f := by simp [horner, Bits.byte8]
theorem horner_lt (f : Nat → Bool) (k : Nat) : horner f k < 2 ^ k := by
  induction k with
  | zero => simp [horner]
  | succ k ih => have := Bool.toNat_le (f k); rw [horner, Nat.pow_succ]; omega
theorem pack_take (L : List Bool) (r : Nat) (hr : r < (L.length + 7) / 8) : (Bits.pack L).take (r + 1) = (Bits.pack L).take r ++ [Bits.byte8 fun j => L.getD (8 * r + j) false] := by
  rw [List.take_succ_eq_append_getElem (by rw [Bits.pack_length]; exact hr), Bits.pack_get _ _ hr]
theorem packed_nil : packed [] = ⟨#[]⟩ := rfl
theorem refBytes_nil (a : Option Addr) (cap : Nat) (w : World) :
    Calls Try.prog 23 #[.slice a 0 cap] w fun e w' => e = .returned (.string (packed [])) ∧ Below w.heap.size w w' := by
  have kc : (convert 26 9 (.slice none 0 0)).run Try.prog w = .ok (.string (packed [])) w := own_string (Own.nil w 5 .u8) Try.underlying26 Try.underlying5 Try.underlying9
  go_enter Try.func23, Try.ntmps23
  go_wp2
  refine wp_loop_rounds 1 ?_
  rw [rounds_succ]
  go_wp2
  go_ret
  exact ⟨rfl, Below.refl _ _⟩
set_option maxRecDepth 100000 in
set_option maxHeartbeats 1000000 in
theorem refBytes_some (L : List Bool) (hL : L.length ≤ 100000) (h0 : 0 < L.length) (g cap : Nat) (w : World) (ho : Own w 3 .i64 (.slice (some ⟨g, 0, none⟩) L.length cap) (bools L)) :
    Calls Try.prog 23 #[.slice (some ⟨g, 0, none⟩) L.length cap] w fun e w' => e = .returned (.string (packed L)) ∧ Below w.heap.size w w' := by
  obtain ⟨n, hn⟩ : ∃ n, n = L.length := ⟨_, rfl⟩
  rw [← hn] at hL h0
  rw [← hn]
  have HN := Lib.hid hn
  rw [← hn] at ho
  have hglt : g < w.heap.size := by
    have := ho.lt g (by simp [foot, Value.ownBlock])
    exact this
  clear hn
  go_enter Try.func23, Try.ntmps23
  go_wp2
  go_loopw [3, 4] (fun o i wr => ∃ r : Nat, 8 * r < n + 8 ∧ i = .int .i64 ((8 * r : Nat) : Int) ∧ Own wr 5 .u8 o (casts ((Bits.pack L).take r)) ∧ Below w.heap.size w wr ∧ ∀ j ∈ foot o, w.heap.size ≤ j) (fun _ i _ => (n + 8) - (intOf i).toNat)
  case atStart => exact ⟨0, by omega, rfl, Own.nil _ _ _, Below.refl _ _, by simp [foot, Value.ownBlock]⟩
  case round =>
    obtain ⟨r, hr, rfl, hO, hb, hF⟩ := hrel
    by_cases hlt : 8 * r < n
    · have hrow : Hid (∀ W, Below w.heap.size w W → ∀ j, 8 * r + j < n → W.cell? ⟨g, 8 * r + j, none⟩ = some (.int .i64 (b2i (L.getD (8 * r + j) false)))) := by
        intro W hW j hj
        have hown := ho.below hW
        have hlen : (bools L).length = n := by rw [bools_length, HN.out]
        rw [← bools_getD]
        exact (show Own W 3 .i64 (.slice (some ⟨g, 0, none⟩) (bools L).length cap) (bools L) by rw [hlen]; exact hown).at_ (8 * r + j) (by omega)
      have HO := Lib.hid hO
      have HF := Lib.hid hF
      clear hO hF
      obtain ⟨wo, rfl⟩ : ∃ wo : World, wo = wr := ⟨_, rfl⟩
      go_wp2
      go_loopw [5, 6] (fun b k wi => ∃ j : Nat, j ≤ 8 ∧ k = .int .i64 j ∧ b = .int .i64 ((horner (fun q => L.getD (8 * r + q) false) j : Nat) : Int) ∧ wo = wi) (fun _ k _ => 8 - (intOf k).toNat)
      case atStart => exact ⟨0, by omega, rfl, rfl, rfl⟩
      case round =>
        obtain ⟨j, hj, rfl, rfl, rfl⟩ := hrel
        have hh := horner_lt (fun q => L.getD (8 * r + q) false) j
        have hh2 : 2 ^ j ≤ 2 ^ 8 := Nat.pow_le_pow_right (by decide) hj
        obtain ⟨h, hhe⟩ : ∃ h, h = horner (fun q => L.getD (8 * r + q) false) j := ⟨_, rfl⟩
        rw [← hhe] at hh
        rw [← hhe]
        have hh3 : h < 256 := by omega
        have HH := Lib.hid hhe
        clear hhe hh hh2
        by_cases hj8 : j < 8
        · by_cases hin : 8 * r + j < n
          · have hc := hrow.out wo hb j hin
            obtain ⟨t, ht⟩ : ∃ t : Nat, t = (L.getD (8 * r + j) false).toNat := ⟨_, rfl⟩
            have htt : b2i (L.getD (8 * r + j) false) = (t : Int) := by rw [ht]; cases L.getD (8 * r + j) false <;> rfl
            have ht1 : t ≤ 1 := by rw [ht]; exact Bool.toNat_le _
            rw [htt] at hc
            have HT := Lib.hid ht
            clear ht htt
            go_wp2
            go_roundw
            case rel => exact ⟨j + 1, by omega, by go_num, by rw [horner, ← HH.out, ← HT.out]; go_num, by first | rfl | trivial⟩
            case measure => simp [intOf]; omega
          · have hz : (L.getD (8 * r + j) false).toNat = 0 := by
              rw [List.getD_eq_getElem?_getD, List.getElem?_eq_none (by have := HN.out; omega)]; rfl
            have HZ := Lib.hid hz
            clear hz
            go_wp2
            go_roundw
            case rel => exact ⟨j + 1, by omega, by go_num, by rw [horner, ← HH.out, HZ.out]; go_num, by first | rfl | trivial⟩
            case measure => simp [intOf]; omega
        · obtain rfl : j = 8 := by omega
          rw [horner_8] at HH
          have hbnd : ((casts ((Bits.pack L).take r)).length + 1) * 1 ≤ 140737488355328 := by
            rw [casts_length, List.length_take, Bits.pack_length]; have := HN.out; omega
          go_wp2_with (at_builtin; refine append_one rfl _ _ 26 5 .u8 1 rfl Try.underlying26 info5 (by decide) u3 (casts ((Bits.pack L).take r)) (h : Int) rfl rfl HO.out hbnd ?_; intro g1 cap1 w1 ho1 hk1 hg1)
          go_roundw
          case rel =>
            have hlt' : r < (L.length + 7) / 8 := by have := HN.out; omega
            refine ⟨r + 1, by omega, by go_num, ?_, ?_, ?_⟩
            · have e : casts ((Bits.pack L).take (r + 1)) = casts ((Bits.pack L).take r) ++ [(h : Int)] := by
                rw [pack_take L r hlt', casts_snoc, HH.out]
              rw [e]
              rw [List.length_append] at ho1
              exact ho1
            · exact hk1.below hb HF.out
            · intro j hj
              rw [foot_slice] at hj
              simp only [List.mem_singleton] at hj
              subst hj
              rcases hg1 with h' | h'
              · exact HF.out _ h'
              · have := hb.size; omega
          case measure => simp [intOf]; omega
    · have hall : casts ((Bits.pack L).take r) = casts (Bits.pack L) := by
        rw [List.take_of_length_le (by rw [Bits.pack_length]; have := HN.out; omega)]
      rw [hall] at hO
      have kc : (convert 26 9 u3).run Try.prog wr = .ok (.string (packed L)) wr := own_string hO Try.underlying26 Try.underlying5 Try.underlying9
      go_wp2
      go_ret
      exact ⟨rfl, hb⟩
/-- The document's bytes. -/
theorem refBytes_is (L : List Bool) (hL : L.length ≤ 100000) (v : Value) (w : World) (ho : Own w 3 .i64 v (bools L)) :
    Calls Try.prog 23 #[v] w fun e w' => e = .returned (.string (packed L)) ∧ Below w.heap.size w w' := by
  by_cases h0 : L = []
  · subst h0
    obtain ⟨a, cap, rfl⟩ := ho.shape
    exact refBytes_nil a cap w
  · have hp : 0 < L.length := List.length_pos_iff.2 h0
    obtain ⟨g, cap, rfl⟩ := ho.form (by rw [bools_length]; exact hp)
    rw [bools_length] at ho ⊢
    exact refBytes_some L hL hp g cap w ho
end Go.Proofs.Ythhfogpkaeminaa
