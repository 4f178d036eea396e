/- The document's keyed number: its walk. -/
import Derived.Test.YthmiomncgkmnoaaDoorKeyRef
set_option linter.unusedVariables false
set_option linter.unusedSimpArgs false
namespace Go.Proofs.YthmiomncgkmnoaaDoor
open Go.RowKit Go.Sort Sip Kd
theorem conv_one (q : Nat) (W : World) : (convert 33 9 (.slice (some ⟨W.heap.size, 0, none⟩) 1 1)).run Tryd.prog (W.alloc (.cells #[.int .u8 (q : Nat)] 5)) = .ok (.string (strOfNums [(q : Int)])) (W.alloc (.cells #[.int .u8 (q : Nat)] 5)) :=
  run_convert_bytes_arg _ 33 5 Tryd.underlying33 Tryd.underlying5 _ 0 1 1 [(q : Int)] rfl (fun j hj => by
    obtain rfl : j = 0 := by simp at hj; omega
    exact cell_of_row _ _ 0 _ 5 (0, 0) (heap_alloc_new W _)) 9 Tryd.underlying9
theorem bs_one (q : Nat) (h : q < 256) : bs (strOfNums [(q : Int)]) = [q] := bs_strOfNums [q] (by simpa using h)
/-- What the rounds keep. -/
structure Rn (w0 w : World) (b : Nat) (kl : List Nat) : Prop where
  key : w.heap[b]? = some (.cells (keyV kl) 23 (0, 0))
  below : Below w0.heap.size w0 w
theorem Rn.later {w0 w w' : World} {b : Nat} {kl : List Nat} (h : Rn w0 w b kl) (hb : Below w.heap.size w w') : Rn w0 w' b kl :=
  ⟨(hb.block b (Array.getElem?_eq_some_iff.1 h.key).1).trans h.key, h.below.trans (hb.mono h.below.size)⟩
set_option maxRecDepth 100000 in
set_option maxHeartbeats 1600000 in
theorem refNum_is (kl : List Nat) (hk : kl.length = 16) (hb : Bytes kl) (sg : Nat) (hs : sg < 256) (n : Int) (w : World) :
    Calls Tryd.prog 35 #[.agg (keyV kl), .int .u8 sg, .int .i64 n] w fun e w' => e = .returned (.int .u64 (num kl sg (u64of n) : Nat)) ∧ Below w.heap.size w w' := by
  have hw := wrap_u64of n
  have hNl := u64of_lt n
  obtain ⟨N, hN⟩ : ∃ N, N = u64of n := ⟨_, rfl⟩
  rw [← hN] at hw hNl
  rw [← hN]
  have hsz := Lib.hid (size23 kl hk)
  have hc0 := conv_one sg (w.alloc (.cells (keyV kl) 23))
  rw [World.size_alloc] at hc0
  have h0 : Hid (Rn w (w.alloc (.cells (keyV kl) 23)) w.heap.size kl) := ⟨heap_alloc_new w _, (Below.refl _ _).alloc (Nat.le_refl _) _⟩
  have hsum : Hid (∀ (s : ByteArray) w, bs s = msg sg N 8 → Calls Tryd.prog 19 #[.agg (keyV kl), .string s] w fun e w' => e = .returned (.int .u64 (num kl sg N : Nat)) ∧ Below w.heap.size w w') := fun s w h => by
    have := refSum_is kl hk hb s (by rw [← bs_length, h, msg_length]; omega) w
    rw [h, show sumW (le (kl.take 8)) (le (kl.drop 8)) (words (msg sg N 8)) = num kl sg N from rfl] at this
    exact this
  obtain ⟨T0, hT0⟩ : ∃ T, T = strOfNums [(sg : Int)] := ⟨_, rfl⟩
  have hb0 : Hid (bs T0 = msg sg N 0) := by show bs T0 = _; rw [hT0]; exact bs_one sg hs
  rw [← hT0] at hc0
  have HNL := Lib.hid hNl
  clear hk hb hs hN hT0 hNl
  go_enter Tryd.func35, Tryd.ntmps35
  go_upto_region 2 with (fail)
  have h1 := Lib.hid (h0.out.later ((Below.refl _ _).alloc (Nat.le_refl _) (.cells #[.int .u8 (sg : Int)] 5)))
  clear hc0 h0
  generalize (w.alloc (.cells (keyV kl) 23)).alloc (.cells #[.int .u8 (sg : Int)] 5) = W at *
  obtain ⟨b, hbe⟩ : ∃ b, b = w.heap.size := ⟨_, rfl⟩
  rw [← hbe] at h1
  rw [← hbe]
  clear hbe
  go_wp2
  go_loopw [7, 8, 9] (fun t y i wr => ∃ (k : Nat) (T : ByteArray), k ≤ 8 ∧ i = .int .i64 k ∧ y = .int .u64 (N / 256 ^ k : Nat) ∧ t = .string T ∧ Hid (bs T = msg sg N k) ∧ Hid (Rn w wr b kl)) (fun _ _ i _ => 8 - (intOf i).toNat)
  case atStart => exact ⟨0, T0, by omega, rfl, by rw [Nat.pow_zero, Nat.div_one], rfl, hb0, h1⟩
  case round =>
    clear h1 hb0
    obtain ⟨k, T, hk, rfl, rfl, rfl, hT, hA⟩ := hrel
    obtain ⟨wo, rfl⟩ : ∃ wo : World, wo = wr := ⟨_, rfl⟩
    by_cases hlt : k < 8
    · have hnx : N / 256 ^ (k + 1) = N / 256 ^ k / 256 := by rw [Nat.pow_succ, Nat.div_div_eq_div_mul]
      have hnb : nb N k = N / 256 ^ k % 256 := rfl
      have hms := msg_succ sg N k
      obtain ⟨Y, hY⟩ : ∃ Y, Y = N / 256 ^ k := ⟨_, rfl⟩
      have hYl : Y < 2 ^ 64 := by rw [hY]; exact Nat.lt_of_le_of_lt (Nat.div_le_self _ _) HNL.out
      rw [← hY] at hnx hnb
      rw [← hY]
      obtain ⟨q, hq⟩ : ∃ q, q = nb N k := ⟨_, rfl⟩
      rw [← hq] at hnb hms
      have hq1 : (Y : Int) % 256 = (q : Int) := by omega
      have hq2 : IntKind.u8.wrap (q : Int) = (q : Int) := conv_i64_u8 q (by omega)
      have hc1 := conv_one q wo
      obtain ⟨Z, hZ⟩ : ∃ Z, Z = strOfNums [(q : Int)] := ⟨_, rfl⟩
      have hZb : bs Z = [q] := by rw [hZ]; exact bs_one q (by omega)
      have hZs : Z.size = 1 := by rw [← bs_length, hZb]; rfl
      have hTs : T.size = k + 1 := by rw [← bs_length, hT.out, msg_length]
      have hbig : ¬ 9223372036854775807 < T.size + Z.size := by omega
      have hTN : Hid (bs (T ++ Z) = msg sg N (k + 1)) := by show _ = _; rw [bs_append, hT.out, hZb, hms]
      rw [← hZ] at hc1
      have hZY : Hid (Value.int .u64 ((Y : Int) / 256) = .int .u64 ((N / 256 ^ (k + 1) : Nat) : Int)) := by show _ = _; rw [hnx]; congr 1
      have hN := Lib.hid (hA.out.later ((Below.refl _ _).alloc (Nat.le_refl _) (.cells #[.int .u8 (q : Int)] 5)))
      clear hA hY hnx hnb hms hq hZ hZb hZs hTs
      go_wp2
      go_roundw
      case rel => exact ⟨k + 1, T ++ Z, by omega, by go_num, hZY.out, rfl, hTN, hN⟩
      case measure => simp [intOf]; omega
    · obtain rfl : k = 8 := by omega
      have hq := hsum.out T wo hT.out
      have hkey := Lib.hid hA.out.key
      have hbw := Lib.hid hA.out.below
      clear hA hsum
      go_wp2_with (first | (refine wpList_load_row rfl 23 (.tmp 3) rfl b rfl 23 (keyV kl) (0, 0) _ hkey.out Tryd.underlying23 rfl hsz.out ?_) | (go_at_call 19; (with_reducible refine hq.mono ?_); rintro e w8 ⟨rfl, hb8⟩; have HB8 := Lib.hid hb8; clear hb8))
      go_ret
      exact ⟨rfl, hbw.out.trans (HB8.out.mono hbw.out.size)⟩
end Go.Proofs.YthmiomncgkmnoaaDoor
