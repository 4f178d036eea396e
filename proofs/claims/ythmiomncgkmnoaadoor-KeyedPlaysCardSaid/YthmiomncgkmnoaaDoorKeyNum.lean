/- What a keyed number is, in plain numbers; the walk of keyed.Num. -/
import Derived.Test.YthmiomncgkmnoaaDoorSipAwake
import Derived.Test.YthmiomncgkmnoaaDoorSipKeys
import Derived.Laws.OwnMore
set_option linter.unusedVariables false
set_option linter.unusedSimpArgs false
namespace Go.Proofs.YthmiomncgkmnoaaDoor
open Go.RowKit Go.Sort Sip
namespace Kd
/-- A number's byte. -/
def nb (N i : Nat) : Nat := N / 256 ^ i % 256
/-- The sign and k bytes of a number. -/
def msg (sg N k : Nat) : List Nat := sg :: (List.range k).map (nb N)
theorem msg_length (sg N k : Nat) : (msg sg N k).length = k + 1 := by simp [msg]
theorem msg_succ (sg N k : Nat) : msg sg N (k + 1) = msg sg N k ++ [nb N k] := by simp [msg, List.range_succ]
theorem msg_bytes (sg N k : Nat) (h : sg < 256) : Bytes (msg sg N k) := by
  intro c hc
  rcases List.mem_cons.1 hc with e | e
  · omega
  · obtain ⟨i, _, rfl⟩ := List.mem_map.1 e
    exact Nat.mod_lt _ (by decide)
/-- The keyed number. -/
def num (kl : List Nat) (sg N : Nat) : Nat := sumW (le (kl.take 8)) (le (kl.drop 8)) (words (msg sg N 8))
/-- A number as 64 bits. -/
def u64of (n : Int) : Nat := (n % 18446744073709551616).toNat
theorem u64of_lt (n : Int) : u64of n < 2 ^ 64 := by unfold u64of; omega
theorem u64of_nat (n : Nat) (h : n < 2 ^ 64) : u64of n = n := by unfold u64of; omega
theorem wrap_u64of (n : Int) : IntKind.u64.wrap n = (u64of n : Int) := by rw [IntKind.wrap_u64]; unfold u64of; omega
theorem wrap_u8_nat (a : Nat) : IntKind.u8.wrap (a : Int) = ((a % 256 : Nat) : Int) := by
  have : IntKind.u8.wrap (a : Int) = (a : Int) % 256 := by simp [IntKind.wrap, IntKind.bits, IntKind.signed]
  rw [this]; omega
theorem nb_wrap (N k : Nat) : IntKind.u8.wrap ((N : Int) / 2 ^ (8 * k)) = ((nb N k : Nat) : Int) := by
  have e : (N : Int) / 2 ^ (8 * k) = ((N / 2 ^ (8 * k) : Nat) : Int) := by rw [Int.natCast_ediv, Int.natCast_pow]; rfl
  rw [e, wrap_u8_nat]
  unfold nb
  rw [show (256 : Nat) ^ k = 2 ^ (8 * k) by rw [Nat.pow_mul]]
end Kd
open Kd
theorem size23 (kl : List Nat) (h : kl.length = 16) : (Tryd.prog.info? 23).map (·.size) = some (keyV kl).size := by rw [keyV_size, h]; kernel_rfl
/-- The key at b, the bytes l at v. -/
structure Nm (w0 w : World) (b : Nat) (kl : List Nat) (v : Value) (l : List Nat) : Prop where
  row : w.heap[b]? = some (.cells (keyV kl) 23 (0, 0))
  own : Own w 5 .u8 v (casts l)
  below : Below w0.heap.size w0 w
  news : ∀ j ∈ foot v, w0.heap.size ≤ j ∧ j ≠ b
theorem Nm.push {w0 w w1 : World} {b g cap q : Nat} {kl : List Nat} {v : Value} {l : List Nat} (h : Nm w0 w b kl v l)
    (ho : Own w1 5 .u8 (.slice (some ⟨g, 0, none⟩) (casts l ++ [(q : Int)]).length cap) (casts l ++ [(q : Int)])) (hk : Keep w w1 (foot v)) (hf : g ∈ foot v ∨ w.heap.size ≤ g) :
    Nm w0 w1 b kl (.slice (some ⟨g, 0, none⟩) ((casts l).length + 1) cap) (l ++ [q]) := by
  have e : (casts l).length + 1 = (casts l ++ [(q : Int)]).length := by rw [List.length_append]; rfl
  have hb := (Array.getElem?_eq_some_iff.1 h.row).1
  rw [e]
  refine ⟨?_, by rw [← casts_snoc]; exact ho, hk.below h.below fun j hj => (h.news j hj).1, ?_⟩
  · rw [hk.block b hb fun hj => (h.news b hj).2 rfl]; exact h.row
  · intro j hj
    rw [foot_slice, List.mem_singleton] at hj
    subst hj
    rcases hf with h1 | h1
    · exact h.news _ h1
    · have := h.below.size; exact ⟨by omega, by omega⟩
theorem nm_start (w : World) (kl : List Nat) (sg N : Nat) :
    Nm w ((w.alloc (.cells (keyV kl) 23)).alloc (.cells #[.int .u8 sg] 5)) w.heap.size kl (.slice (some ⟨w.heap.size + 1, 0, none⟩) 1 1) (msg sg N 0) := by
  have hb : Below w.heap.size w (w.alloc (.cells (keyV kl) 23)) := (Below.refl _ _).alloc (Nat.le_refl _) _
  have ho := World.ownsRow_lit (base := 0) (e := 5) (size := 1) (w.alloc (.cells (keyV kl) 23)) #[.int .u8 sg] 1 (Nat.zero_le _) (by decide) rfl
  rw [World.size_alloc] at ho
  refine ⟨?_, ho, hb.alloc hb.size _, ?_⟩
  · exact ((Below.refl _ _).alloc (Nat.le_refl _) _ : Below (w.alloc (.cells (keyV kl) 23)).heap.size (w.alloc (.cells (keyV kl) 23)) _).block _ (by simp) |>.trans (heap_alloc_new w _)
  · intro j hj
    rw [foot_slice, List.mem_singleton] at hj
    omega
set_option maxRecDepth 100000 in
set_option maxHeartbeats 1600000 in
theorem num_is (kl : List Nat) (hk : kl.length = 16) (hb : Bytes kl) (sg : Nat) (hs : sg < 256) (n : Int) (w : World) (hg : Signs w) :
    Calls Tryd.prog 34 #[.agg (keyV kl), .int .u8 sg, .int .i64 n] w fun e w' => e = .returned (.int .u64 (num kl sg (u64of n) : Nat)) ∧ Below w.heap.size w w' := by
  have h0 := Lib.hid (nm_start w kl sg (u64of n))
  have hw := wrap_u64of n
  obtain ⟨N, hN⟩ : ∃ N, N = u64of n := ⟨_, rfl⟩
  rw [← hN] at hw h0
  rw [← hN]
  have hsz := Lib.hid (size23 kl hk)
  have HG := Lib.hid hg
  have HK := Lib.hid hk
  have HB := Lib.hid hb
  have HS := Lib.hid hs
  clear hN hg hk hb hs
  go_enter Tryd.func34, Tryd.ntmps34
  go_upto_region 2 with (fail)
  generalize (w.alloc (.cells (keyV kl) 23)).alloc (.cells #[.int .u8 (sg : Int)] 5) = W at *
  obtain ⟨b, hb⟩ : ∃ b, b = w.heap.size := ⟨_, rfl⟩
  rw [← hb] at h0
  rw [← hb]
  generalize b + 1 = g0 at *
  clear hb
  go_wp2
  go_loopw [7, 11] (fun v i wr => ∃ k : Nat, k ≤ 8 ∧ i = .int .i64 k ∧ Hid (Nm w wr b kl v (msg sg N k))) (fun _ i _ => 8 - (intOf i).toNat)
  case atStart => exact ⟨0, by omega, rfl, h0⟩
  case round =>
    clear h0
    obtain ⟨k, hk, rfl, hA⟩ := hrel
    obtain ⟨wo, rfl⟩ : ∃ wo : World, wo = wr := ⟨_, rfl⟩
    by_cases hlt : k < 8
    · have HO := Lib.hid hA.out.own
      have hbnd : Hid (((casts (msg sg N k)).length + 1) * 1 ≤ 140737488355328) := by
        show ((casts (msg sg N k)).length + 1) * 1 ≤ 140737488355328
        rw [casts_length, msg_length]; omega
      have hnb := nb_wrap N k
      have hms := msg_succ sg N k
      obtain ⟨M, hM⟩ : ∃ M, M = 8 * k := ⟨_, rfl⟩
      have hM1 : (8 : Int) * (k : Int) = (M : Int) := by omega
      have hM2 : M < 64 := by omega
      rw [← hM] at hnb
      obtain ⟨q, hq⟩ : ∃ q, q = nb N k := ⟨_, rfl⟩
      rw [← hq] at hnb hms
      have HMS := Lib.hid hms
      clear hM hms hq

      go_wp2_with (at_builtin; refine append_one rfl _ _ 33 5 .u8 1 rfl Tryd.underlying33 info5 (by decide) u7 (casts (msg sg N k)) (q : Int) rfl rfl HO.out hbnd.out ?_; intro g3 c3 w3 ho3 hk3 hf3; have hs3 := Lib.hid (hA.out.push ho3 hk3 hf3); clear ho3 hk3 hf3)
      go_roundw
      case rel => exact ⟨k + 1, by omega, by go_num, by rw [HMS.out]; exact hs3⟩
      case measure => simp [intOf]; omega
    · obtain rfl : k = 8 := by omega
      have hown := hA.out.own
      have hcv : (convert 33 9 u7).run Tryd.prog wo = .ok (.string (strOfNums (casts (msg sg N 8)))) wo := own_string hown Tryd.underlying33 Tryd.underlying5 Tryd.underlying9
      have hS : Signs wo := HG.out.below hA.out.below
      have hbs : bs (strOfNums (casts (msg sg N 8))) = msg sg N 8 := bs_strOfNums _ (msg_bytes sg N 8 HS.out)
      have hsm := sum_is kl HK.out HB.out (strOfNums (casts (msg sg N 8))) (by rw [← bs_length, hbs, msg_length]; omega) wo hS
      rw [hbs, show sumW (le (kl.take 8)) (le (kl.drop 8)) (words (msg sg N 8)) = num kl sg N from rfl] at hsm
      have hrow := Lib.hid hA.out.row
      obtain ⟨T, hT⟩ : ∃ T, T = strOfNums (casts (msg sg N 8)) := ⟨_, rfl⟩
      rw [← hT] at hcv hsm
      have HBW := Lib.hid hA.out.below
      clear hown hS hbs hT hA HG HK HB HS
      go_wp2_with (first | (refine wpList_load_row rfl 23 (.tmp 3) rfl b rfl 23 (keyV kl) (0, 0) _ hrow.out Tryd.underlying23 rfl hsz.out ?_) | (go_at_call 18; (with_reducible refine hsm.mono ?_); rintro e w8 ⟨rfl, hb8⟩; have HB8 := Lib.hid hb8; clear hb8))
      go_ret
      exact ⟨rfl, HBW.out.trans (HB8.out.mono HBW.out.size)⟩
end Go.Proofs.YthmiomncgkmnoaaDoor
