/- A text's sum: the walks of times, sip.Sum. -/
import Derived.Test.YthmiomncgkmnoaaDoorSipWords
import Derived.Outline
set_option linter.unusedVariables false
set_option linter.unusedSimpArgs false
namespace Go.Proofs.YthmiomncgkmnoaaDoor
open Go.RowKit Go.Sort Sip
namespace Sip
def rounds : Nat → Four → Four
  | 0, v => v
  | n + 1, v => round (rounds n v)
theorem rounds_ok {v : Four} (h : v.Ok) : ∀ n, (rounds n v).Ok
  | 0 => h
  | n + 1 => round_ok (rounds_ok h n)
/-- A word taken in. -/
def xd (v : Four) (x : Nat) : Four := ⟨v.a, v.b, v.c, v.d ^^^ x⟩
def xa (v : Four) (x : Nat) : Four := ⟨v.a ^^^ x, v.b, v.c, v.d⟩
def xc (v : Four) (x : Nat) : Four := ⟨v.a, v.b, v.c ^^^ x, v.d⟩
def take1 (v : Four) (x : Nat) : Four := xa (rounds 2 (xd v x)) x
def start4 (a b : Nat) : Four := ⟨a ^^^ 8317987319222330741, b ^^^ 7237128888997146477, a ^^^ 7816392313619706465, b ^^^ 8387220255154660723⟩
def all4 (v : Four) : Nat := v.a ^^^ v.b ^^^ v.c ^^^ v.d
/-- The sum of words under a key of two words. -/
def sumW (a b : Nat) (ws : List Nat) : Nat := all4 (rounds 4 (xc (ws.foldl take1 (start4 a b)) 255))
def W64 (l : List Nat) : Prop := ∀ x ∈ l, x < 2 ^ 64
theorem xd_ok {v : Four} {x : Nat} (h : v.Ok) (hx : x < 2 ^ 64) : (xd v x).Ok := ⟨h.1, h.2.1, h.2.2.1, xor_lt _ _ h.2.2.2 hx⟩
theorem xa_ok {v : Four} {x : Nat} (h : v.Ok) (hx : x < 2 ^ 64) : (xa v x).Ok := ⟨xor_lt _ _ h.1 hx, h.2.1, h.2.2.1, h.2.2.2⟩
theorem xc_ok {v : Four} {x : Nat} (h : v.Ok) (hx : x < 2 ^ 64) : (xc v x).Ok := ⟨h.1, h.2.1, xor_lt _ _ h.2.2.1 hx, h.2.2.2⟩
theorem take1_ok {v : Four} {x : Nat} (h : v.Ok) (hx : x < 2 ^ 64) : (take1 v x).Ok := xa_ok (rounds_ok (xd_ok h hx) 2) hx
theorem fold_ok : ∀ (l : List Nat) {v : Four}, v.Ok → W64 l → (l.foldl take1 v).Ok
  | [], _, h, _ => h
  | x :: l, _, h, hl => fold_ok l (take1_ok h (hl x (by simp))) fun y hy => hl y (List.mem_cons_of_mem _ hy)
theorem start4_ok {a b : Nat} (ha : a < 2 ^ 64) (hb : b < 2 ^ 64) : (start4 a b).Ok :=
  ⟨xor_lt _ _ ha (by decide), xor_lt _ _ hb (by decide), xor_lt _ _ ha (by decide), xor_lt _ _ hb (by decide)⟩
theorem fold_take (l : List Nat) (v : Four) (k : Nat) (hk : k < l.length) : (l.take (k + 1)).foldl take1 v = take1 ((l.take k).foldl take1 v) (l.getD k 0) := by
  rw [List.take_succ_eq_append_getElem hk, List.foldl_append, List.getD_eq_getElem?_getD, List.getElem?_eq_getElem hk]; rfl
theorem words_64 (l : List Nat) (h : Bytes l) : W64 (words l) := by
  intro x hx
  unfold words at hx
  rw [wordsF_eq] at hx
  rcases List.mem_append.1 hx with h1 | h1
  · obtain ⟨i, _, rfl⟩ := List.mem_map.1 h1
    have := le_lt _ ((h.drop (8 * i)).take 8)
    refine Nat.lt_of_lt_of_le this ?_
    rw [show (256 : Nat) = 2 ^ 8 from rfl, ← Nat.pow_mul]
    exact Nat.pow_le_pow_right (by decide) (by rw [List.length_take]; omega)
  · rw [List.mem_singleton] at h1
    have h2 := le_tail l h
    have h3 : l.length % 256 ≤ 255 := by omega
    have h4 : l.length % 256 * 2 ^ 56 ≤ 255 * 2 ^ 56 := Nat.mul_le_mul_right _ h3
    have h5 : (256 : Nat) * 2 ^ 56 = 2 ^ 64 := by rw [show (256 : Nat) = 2 ^ 8 from rfl, ← Nat.pow_add]
    rw [h1, ← h5, show (256 : Nat) = 255 + 1 from rfl, Nat.add_mul, Nat.one_mul, Nat.add_comm]
    exact Nat.add_lt_add_of_le_of_lt h4 h2
end Sip
theorem roundKeep {w w1 : World} {b : Nat} (h : Keep w w1 [b]) {w2 : World} (h' : Keep w1 w2 [b]) : Keep w w2 [b] := h.trans h'
set_option maxRecDepth 100000 in
theorem times_is (n : Nat) (hn : n ≤ 100) (w : World) (b : Nat) (v : Four) (hv : v.Ok) (h : St w b v) :
    Calls Tryd.prog 44 #[.int .i64 n, .func (.func 43) #[.pointer (some ⟨b, 0, none⟩)] #[]] w fun e w' => e = .returned (.tuple #[]) ∧ St w' b (rounds n v) ∧ Keep w w' [b] := by
  have HV := Lib.hid hv
  have H0 := Lib.hid h
  have K0 := Lib.hid (Keep.refl w [b])
  clear hv h
  go_enter Tryd.func44, Tryd.ntmps44
  go_wp2
  go_loopw [5] (fun i wr => ∃ k : Nat, k ≤ n ∧ i = .int .i64 k ∧ Hid (St wr b (rounds k v)) ∧ Hid (Keep w wr [b])) (fun i _ => n - (intOf i).toNat)
  case atStart => exact ⟨0, Nat.zero_le _, rfl, H0, K0⟩
  case round =>
    clear H0 K0
    obtain ⟨k, hk, rfl, hS, hK⟩ := hrel
    by_cases hlt : k < n
    · go_wp2_with ((go_at_call 43; (with_reducible refine (round_is _ b _ (rounds_ok HV.out k) hS.out).mono ?_); rintro e w1 ⟨rfl, h1, k1⟩; have H1 := Lib.hid h1; have K1 := Lib.hid (hK.out.trans k1); clear h1 k1))
      go_roundw
      case rel => exact ⟨k + 1, by omega, by go_num, H1, K1⟩
      case measure => simp [intOf]; omega
    · obtain rfl : k = n := by omega
      go_wp2
      go_end0
      exact ⟨rfl, hS.out, hK.out⟩
theorem times2 (w : World) (b : Nat) (v : Four) (hv : v.Ok) (h : St w b v) :
    Calls Tryd.prog 44 #[.int .i64 2, .func (.func 43) #[.pointer (some ⟨b, 0, none⟩)] #[]] w fun e w' => e = .returned (.tuple #[]) ∧ St w' b (rounds 2 v) ∧ Keep w w' [b] := times_is 2 (by decide) w b v hv h
theorem times4 (w : World) (b : Nat) (v : Four) (hv : v.Ok) (h : St w b v) :
    Calls Tryd.prog 44 #[.int .i64 4, .func (.func 43) #[.pointer (some ⟨b, 0, none⟩)] #[]] w fun e w' => e = .returned (.tuple #[]) ∧ St w' b (rounds 4 v) ∧ Keep w w' [b] := times_is 4 (by decide) w b v hv h
/-- A key's bytes, as a value. -/
def keyV (kl : List Nat) : Array Value := (kl.map fun (c : Nat) => Value.int .u8 c).toArray
theorem keyV_get (kl : List Nat) (i : Nat) (hi : i < kl.length) : (keyV kl)[i]? = some (.int .u8 (kl.getD i 0 : Nat)) := by
  simp [keyV, List.getD_eq_getElem?_getD, List.getElem?_eq_getElem hi]
/-- The listed variable, as it was laid. -/
def Signs (w : World) : Prop := w.cell? ⟨0, 0, none⟩ = some (.int .u64 8317987319222330741) ∧ w.cell? ⟨0, 1, none⟩ = some (.int .u64 7237128888997146477) ∧ w.cell? ⟨0, 2, none⟩ = some (.int .u64 7816392313619706465) ∧ w.cell? ⟨0, 3, none⟩ = some (.int .u64 8387220255154660723)
theorem Signs.pos {w : World} (h : Signs w) : 0 < w.heap.size := World.block_lt_of_cell? w _ h.1
theorem Signs.below {w w' : World} (h : Signs w) (hb : Below w.heap.size w w') : Signs w' :=
  ⟨(hb.cell h.pos).trans h.1, (hb.cell h.pos).trans h.2.1, (hb.cell h.pos).trans h.2.2.1, (hb.cell h.pos).trans h.2.2.2⟩
theorem str_size (l : List Nat) (h : Bytes l) : (strOfNums (l.map Nat.cast)).size = l.length := by
  rw [← bs_length, bs_strOfNums l h]
theorem conv_part (kl : List Nat) (o n cap : Nat) (hn : o + n ≤ kl.length) (w : World) (b : Nat) (hc : ∀ i, i < kl.length → w.cell? ⟨b, i, none⟩ = some (.int .u8 (kl.getD i 0 : Nat))) :
    (convert 33 9 (.slice (some ⟨b, o, none⟩) n cap)).run Tryd.prog w = .ok (.string (strOfNums (((kl.drop o).take n).map Nat.cast))) w := by
  refine run_convert_bytes_arg w 33 5 Tryd.underlying33 Tryd.underlying5 b o n cap _ (by rw [List.length_map, List.length_take, List.length_drop]; omega) (fun i hi => ?_) 9 Tryd.underlying9
  rw [hc (o + i) (by omega)]
  congr 2
  simp only [List.getD_eq_getElem?_getD, List.getElem?_map, List.getElem?_take, List.getElem?_drop, hi, if_true]
  rw [List.getElem?_eq_getElem (by omega)]
  rfl
set_option maxRecDepth 100000 in
theorem sum_is (kl : List Nat) (hk : kl.length = 16) (hb : Bytes kl) (s : ByteArray) (hs : s.size ≤ 100000) (w : World) (hg : Signs w) :
    Calls Tryd.prog 18 #[.agg (keyV kl), .string s] w fun e w' => e = .returned (.int .u64 (sumW (le (kl.take 8)) (le (kl.drop 8)) (words (bs s)) : Nat)) ∧ Below w.heap.size w w' := by
  have hwd := words_is s hs
  obtain ⟨ws, hws⟩ : ∃ ws, ws = words (bs s) := ⟨_, rfl⟩
  have HW64 : Hid (W64 ws) := by show W64 ws; rw [hws]; exact words_64 _ (bytes_bs s)
  have HWL : Hid (ws.length ≤ 20000) := by
    show ws.length ≤ 20000
    rw [hws, words_length, bs_length]; omega
  rw [← hws] at hwd
  rw [← hws]
  clear hws
  obtain ⟨a, ha⟩ : ∃ a, a = le (kl.take 8) := ⟨_, rfl⟩
  obtain ⟨b, hbb⟩ : ∃ b, b = le (kl.drop 8) := ⟨_, rfl⟩
  have hal : a < 2 ^ 64 := by rw [ha]; exact num_lt _ (hb.take 8) (by rw [List.length_take]; omega)
  have hbl : b < 2 ^ 64 := by rw [hbb]; exact num_lt _ (hb.drop 8) (by rw [List.length_drop]; omega)
  obtain ⟨S1, hS1⟩ : ∃ S, S = strOfNums ((kl.take 8).map Nat.cast) := ⟨_, rfl⟩
  obtain ⟨S2, hS2⟩ : ∃ S, S = strOfNums ((kl.drop 8).map Nat.cast) := ⟨_, rfl⟩
  have n1 := fun w => number_is S1 (by rw [hS1, str_size _ (hb.take 8), List.length_take]; omega) w
  have n2 := fun w => number_is S2 (by rw [hS2, str_size _ (hb.drop 8), List.length_drop]; omega) w
  rw [show bs S1 = kl.take 8 by rw [hS1]; exact bs_strOfNums _ (hb.take 8), ← ha] at n1
  rw [show bs S2 = kl.drop 8 by rw [hS2]; exact bs_strOfNums _ (hb.drop 8), ← hbb] at n2
  obtain ⟨W1, hW1⟩ : ∃ W1, W1 = w.alloc (.cells (keyV kl) 23) := ⟨_, rfl⟩
  obtain ⟨B, hB⟩ : ∃ B, B = w.heap.size := ⟨_, rfl⟩
  have hc : ∀ i, i < kl.length → W1.cell? ⟨B, i, none⟩ = some (.int .u8 (kl.getD i 0 : Nat)) := fun i hi => by
    rw [← keyV_get kl i hi, hW1, hB]
    exact cell_of_row _ _ _ _ 23 (0, 0) (heap_alloc_new w _)
  have c1 : ∀ n, (convert 33 9 (.slice (some ⟨B, 0, none⟩) 8 16)).run Tryd.prog (W1.drewN n) = .ok (.string S1) (W1.drewN n) := fun n => by
    have := conv_part kl 0 8 16 (by omega) (W1.drewN n) B hc
    rw [List.drop_zero, ← hS1] at this
    exact this
  have c2 : ∀ n, (convert 33 9 (.slice (some ⟨B, 8, none⟩) 8 8)).run Tryd.prog (W1.drewN n) = .ok (.string S2) (W1.drewN n) := fun n => by
    have := conv_part kl 8 8 8 (by omega) (W1.drewN n) B hc
    rw [List.take_of_length_le (by rw [List.length_drop]; omega), ← hS2] at this
    exact this
  rw [← ha, ← hbb]
  have HG := Lib.hid hg
  have HW := Lib.hid hW1
  have hB' := hB.symm
  clear ha hbb hg hS1 hS2 hc hB hW1
  go_enter Tryd.func18, Tryd.ntmps18
  go_wp2
  rw [← HW.out]
  go_quiet (first | (with_reducible exact Calls.quiet_of_same (n1 _)) | (with_reducible exact Calls.quiet_of_same (n2 _)))
  have hb2 : Below w.heap.size w (W1.drewN nq) := by
    have : Below w.heap.size w W1 := by rw [HW.out]; exact (Below.refl _ _).alloc (Nat.le_refl _) _
    exact ⟨this.os, this.tape, this.output, this.size, this.block⟩
  obtain ⟨g0, g1, g2, g3⟩ := HG.out.below hb2
  have HB2 := Lib.hid hb2
  generalize W1.drewN nq = W2 at *
  obtain ⟨V, hV⟩ : ∃ V, V = start4 a b := ⟨_, rfl⟩
  have x0 : bits BinOp.xor .u64 (a : Int) 8317987319222330741 = (V.a : Int) := by rw [hV]; exact xor_u64 a 8317987319222330741 hal (by decide)
  have x1 : bits BinOp.xor .u64 (b : Int) 7237128888997146477 = (V.b : Int) := by rw [hV]; exact xor_u64 b 7237128888997146477 hbl (by decide)
  have x2 : bits BinOp.xor .u64 (a : Int) 7816392313619706465 = (V.c : Int) := by rw [hV]; exact xor_u64 a 7816392313619706465 hal (by decide)
  have x3 : bits BinOp.xor .u64 (b : Int) 8387220255154660723 = (V.d : Int) := by rw [hV]; exact xor_u64 b 8387220255154660723 hbl (by decide)
  have HV := Lib.hid hV
  have HVO := Lib.hid (show V.Ok by rw [hV]; exact start4_ok hal hbl)
  have hmf : ∀ (fn : Fn) (first cap : Array Value) (w : World), (Instr.makeFunc fn first cap).run Tryd.prog w = .ok (.func fn first cap) w := fun _ _ _ _ => rfl
  clear c1 c2 n1 n2 hb2 hV hal hbl hB' HW HG hk hb
  obtain ⟨W3, hW3⟩ : ∃ W3, W3 = W2.alloc (.cells (cells4 V) 58) := ⟨_, rfl⟩
  obtain ⟨B3, hB3⟩ : ∃ B3, B3 = W2.heap.size := ⟨_, rfl⟩
  have HS3 : Hid (St W3 B3 V) := by show St W3 B3 V; rw [hW3, hB3]; exact heap_alloc_new W2 _
  have HB3 : Hid (Below w.heap.size w W3) := by show Below w.heap.size w W3; rw [hW3]; exact HB2.out.alloc HB2.out.size _
  have HL3 : Hid (B3 < W3.heap.size ∧ w.heap.size ≤ B3) := by
    show B3 < W3.heap.size ∧ w.heap.size ≤ B3
    have := HB2.out.size
    rw [hW3, hB3]; exact ⟨by simp, this⟩
  have HW3 := Lib.hid hW3
  have HB3' := Lib.hid hB3
  clear hW3 hB3
  go_wp2_with fail
  rw [show W2.alloc (.cells #[.int .u64 V.a, .int .u64 V.b, .int .u64 V.c, .int .u64 V.d] 58) = W3 from HW3.out.symm, ← HB3'.out]
  clear x0 x1 x2 x3 g0 g1 g2 g3 hmf HB2 HW3 HB3'
  (with_reducible refine (hwd _).mono ?_); rintro e w3 ⟨g, cap, rfl, hwo⟩
  have hS0 : Hid (St w3 B3 V) := by show St w3 B3 V; unfold St; rw [hwo.below.block B3 HL3.out.1]; exact HS3.out
  have hK0 : Hid (Keep w3 w3 [B3]) := Keep.refl _ _
  have hG : Hid (B3 ≠ g ∧ Below w.heap.size w w3) := by
    show B3 ≠ g ∧ Below w.heap.size w w3
    have h1 := HL3.out.1
    have h2 := hwo.news g (by rw [foot_slice]; simp)
    exact ⟨by omega, HB3.out.trans (hwo.below.mono HB3.out.size)⟩
  have HWO := Lib.hid hwo
  clear hwo hwd HS3 HB3
  go_wp2_with fail
  obtain ⟨n, hn⟩ : ∃ n, n = ws.length := ⟨_, rfl⟩
  have hnl : n ≤ 20000 := by rw [hn]; exact HWL.out
  rw [← hn]
  rw [← hn] at HWO
  have HN := Lib.hid hn
  clear hn HWL
  go_loopw [10, 38] (fun _ i wr => ∃ k : Nat, k ≤ n ∧ i = .int .i64 k ∧ Hid (St wr B3 ((ws.take k).foldl take1 V)) ∧ Hid (Keep w3 wr [B3])) (fun _ i _ => n - (intOf i).toNat)
  case atStart => exact ⟨0, Nat.zero_le _, rfl, hS0, hK0⟩
  case round =>
    clear hS0 hK0
    obtain ⟨k, hk, rfl, hS, hK⟩ := hrel
    by_cases hlt : k < n
    · have hfold := fold_take ws V k (by rw [← HN.out]; exact hlt)
      obtain ⟨X, hX⟩ : ∃ X, X = ws.getD k 0 := ⟨_, rfl⟩
      have hc : wr.cell? ⟨g, k, none⟩ = some (.int .u64 (X : Nat)) := by
        have hl : g < w3.heap.size := HWO.out.own.lt g (by rw [foot_slice]; simp)
        have h1 : wr.heap[g]? = w3.heap[g]? := hK.out.block g hl (by simpa using fun e => hG.out.1 e.symm)
        rw [World.cell?_of_block h1]
        have h2 := HWO.out.own
        rw [HN.out, ← casts_length] at h2
        rw [Own.at_ h2 k (by rw [casts_length, ← HN.out]; exact hlt), casts_get, hX]
      have hXl : X < 2 ^ 64 := by
        rw [hX, List.getD_eq_getElem?_getD, List.getElem?_eq_getElem (by rw [← HN.out]; exact hlt)]
        exact HW64.out _ (List.getElem_mem _)
      rw [← hX] at hfold
      have hVo : ((ws.take k).foldl take1 V).Ok := fold_ok _ HVO.out fun y hy => HW64.out y (List.mem_of_mem_take hy)
      obtain ⟨U, hU⟩ : ∃ U, U = (ws.take k).foldl take1 V := ⟨_, rfl⟩
      rw [← hU] at hfold hVo hS
      have HF := Lib.hid hfold
      have c3 : wr.cell? ⟨B3, 3, none⟩ = some (.int .u64 (U.d : Nat)) := hS.out.cell 3
      have f3 : wr.frozen? ⟨B3, 3, none⟩ = false := hS.out.free 3
      have hx := xor_u64 U.d X hVo.2.2.2 hXl
      have ho1 := Lib.hid (xd_ok hVo hXl)
      obtain ⟨W4, hW4⟩ : ∃ W4, W4 = wr.setCell ⟨B3, 3, none⟩ (.int .u64 (U.d ^^^ X : Nat)) := ⟨_, rfl⟩
      have hS4 : Hid (St W4 B3 (xd U X)) := by show St W4 B3 (xd U X); rw [hW4]; exact hS.out.set 3 _ _ rfl
      have hK4 : Hid (Keep w3 W4 [B3]) := by show Keep w3 W4 [B3]; rw [hW4]; exact hK.out.trans (Keep.setCell _ ⟨B3, 3, none⟩ _ [B3] (by simp))
      have HW4 := Lib.hid hW4
      have HXL := Lib.hid hXl
      clear hX hU hfold hVo hXl hW4
      go_wp2_with fail
      rw [← HW4.out]
      clear c3 f3 hx HW4 hc
      (with_reducible refine (times2 W4 B3 _ ho1.out hS4.out).mono ?_); rintro e w5 ⟨rfl, h5, k5⟩
      obtain ⟨U5, hU5⟩ : ∃ U5, U5 = rounds 2 (xd U X) := ⟨_, rfl⟩
      have hok5 : U5.Ok := by rw [hU5]; exact rounds_ok ho1.out 2
      rw [← hU5] at h5
      have HF5 : Hid ((ws.take (k + 1)).foldl take1 V = xa U5 X) := by show (ws.take (k + 1)).foldl take1 V = xa U5 X; rw [HF.out, hU5]; rfl
      have c0 : w5.cell? ⟨B3, 0, none⟩ = some (.int .u64 (U5.a : Nat)) := h5.cell 0
      have f0 : w5.frozen? ⟨B3, 0, none⟩ = false := h5.free 0
      have hx := xor_u64 U5.a X hok5.1 HXL.out
      have hS6 : Hid (St (w5.setCell ⟨B3, 0, none⟩ (.int .u64 (U5.a ^^^ X : Nat))) B3 ((ws.take (k + 1)).foldl take1 V)) := by
        show St _ B3 _
        rw [HF5.out]; exact h5.set 0 _ _ rfl
      have hK6 : Hid (Keep w3 (w5.setCell ⟨B3, 0, none⟩ (.int .u64 (U5.a ^^^ X : Nat))) [B3]) := (hK4.out.trans k5).trans (Keep.setCell _ ⟨B3, 0, none⟩ _ [B3] (by simp))
      clear h5 k5 hU5 hok5 HF5 HF
      go_wp2_with fail
      go_roundw
      case rel => exact ⟨k + 1, by omega, by go_num, hS6, hK6⟩
      case measure => simp [intOf]; omega
    · obtain rfl : k = n := by omega
      rw [List.take_of_length_le (by rw [HN.out]; exact Nat.le_refl _)] at hS
      obtain ⟨U, hU⟩ : ∃ U, U = ws.foldl take1 V := ⟨_, rfl⟩
      have hok : U.Ok := by rw [hU]; exact fold_ok _ HVO.out HW64.out
      have hR : Hid (sumW a b ws = all4 (rounds 4 (xc U 255))) := by show sumW a b ws = _; rw [hU, HV.out]; rfl
      rw [← hU] at hS
      have c2 : wr.cell? ⟨B3, 2, none⟩ = some (.int .u64 (U.c : Nat)) := hS.out.cell 2
      have f2 : wr.frozen? ⟨B3, 2, none⟩ = false := hS.out.free 2
      have hx : bits BinOp.xor .u64 (U.c : Int) 255 = ((U.c ^^^ 255 : Nat) : Int) := xor_u64 U.c 255 hok.2.2.1 (by decide)
      have ho1 := Lib.hid (xc_ok (x := 255) hok (by decide))
      obtain ⟨W4, hW4⟩ : ∃ W4, W4 = wr.setCell ⟨B3, 2, none⟩ (.int .u64 (U.c ^^^ 255 : Nat)) := ⟨_, rfl⟩
      have hS4 : Hid (St W4 B3 (xc U 255)) := by show St W4 B3 (xc U 255); rw [hW4]; exact hS.out.set 2 _ _ rfl
      have hK4 : Hid (Keep w3 W4 [B3]) := by show Keep w3 W4 [B3]; rw [hW4]; exact hK.out.trans (Keep.setCell _ ⟨B3, 2, none⟩ _ [B3] (by simp))
      have HW4 := Lib.hid hW4
      clear hU hok hW4
      go_wp2_with fail
      rw [← HW4.out]
      clear c2 f2 hx HW4
      (with_reducible refine (times4 W4 B3 _ ho1.out hS4.out).mono ?_); rintro e w5 ⟨rfl, h5, k5⟩
      obtain ⟨U5, hU5⟩ : ∃ U5, U5 = rounds 4 (xc U 255) := ⟨_, rfl⟩
      have hok5 : U5.Ok := by rw [hU5]; exact rounds_ok ho1.out 4
      rw [← hU5] at h5 hR
      have d0 : w5.cell? ⟨B3, 0, none⟩ = some (.int .u64 (U5.a : Nat)) := h5.cell 0
      have d1 : w5.cell? ⟨B3, 1, none⟩ = some (.int .u64 (U5.b : Nat)) := h5.cell 1
      have d2 : w5.cell? ⟨B3, 2, none⟩ = some (.int .u64 (U5.c : Nat)) := h5.cell 2
      have d3 : w5.cell? ⟨B3, 3, none⟩ = some (.int .u64 (U5.d : Nat)) := h5.cell 3
      have y1 := xor_u64 U5.a U5.b hok5.1 hok5.2.1
      have y2 := xor_u64 (U5.a ^^^ U5.b) U5.c (Sip.xor_lt _ _ hok5.1 hok5.2.1) hok5.2.2.1
      have y3 := xor_u64 (U5.a ^^^ U5.b ^^^ U5.c) U5.d (Sip.xor_lt _ _ (Sip.xor_lt _ _ hok5.1 hok5.2.1) hok5.2.2.1) hok5.2.2.2
      have HB5 : Hid (Below w.heap.size w w5) := by
        show Below w.heap.size w w5
        refine (hK4.out.trans k5).below hG.out.2 (fun j hj => ?_)
        rw [List.mem_singleton] at hj
        subst hj
        exact HL3.out.2
      clear h5 k5 hU5 hok5
      go_wp2_with fail
      go_ret
      rw [hR.out]
      exact ⟨rfl, HB5.out⟩
end Go.Proofs.YthmiomncgkmnoaaDoor
