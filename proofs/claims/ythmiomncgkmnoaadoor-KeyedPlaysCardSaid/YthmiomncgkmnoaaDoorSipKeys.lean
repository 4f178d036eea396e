/- The law SipKeys: the walks of sip.Key and of the law. -/
import Derived.Test.YthmiomncgkmnoaaDoorSipTurns
set_option linter.unusedVariables false
set_option linter.unusedSimpArgs false
namespace Go.Proofs.YthmiomncgkmnoaaDoor
open Go.RowKit Go.Sort Sip
/-- Byte i of a number. -/
def byteOf (a i : Nat) : Nat := a / 2 ^ (8 * i) % 256
/-- k rounds of Key. -/
def keyOf (a b k : Nat) : List Nat := (List.range 16).map fun i => if i < 8 then (if i < k then byteOf a i else 0) else (if i - 8 < k then byteOf b (i - 8) else 0)
theorem keyOf_length (a b k : Nat) : (keyOf a b k).length = 16 := by simp [keyOf]
theorem keyOf_set (a b k : Nat) (hk : k < 8) : ((keyOf a b k).set k (byteOf a k)).set (8 + k) (byteOf b k) = keyOf a b (k + 1) := by
  apply List.ext_getElem
  · simp [keyOf]
  · intro i h1 h2
    have hi : i < 16 := by simpa [keyOf] using h2
    simp only [keyOf, List.getElem_set, List.getElem_map, List.getElem_range]
    by_cases e1 : 8 + k = i
    · subst e1
      rw [if_pos rfl, if_neg (by omega), if_pos (by omega), show 8 + k - 8 = k by omega]
    · rw [if_neg e1]
      by_cases e2 : k = i
      · subst e2
        rw [if_pos rfl, if_pos (by omega), if_pos (by omega)]
      · rw [if_neg e2]
        by_cases h8 : i < 8
        · rw [if_pos h8, if_pos h8]
          by_cases h3 : i < k
          · rw [if_pos h3, if_pos (by omega)]
          · rw [if_neg h3, if_neg (by omega)]
        · rw [if_neg h8, if_neg h8]
          by_cases h3 : i - 8 < k
          · rw [if_pos h3, if_pos (by omega)]
          · rw [if_neg h3, if_neg (by omega)]
theorem le_bytes (a : Nat) (ha : a < 2 ^ 64) : le [byteOf a 0, byteOf a 1, byteOf a 2, byteOf a 3, byteOf a 4, byteOf a 5, byteOf a 6, byteOf a 7] = a := by
  simp only [le, byteOf]
  omega
theorem keyOf_take (a b : Nat) (ha : a < 2 ^ 64) : le ((keyOf a b 8).take 8) = a := by
  have : (keyOf a b 8).take 8 = [byteOf a 0, byteOf a 1, byteOf a 2, byteOf a 3, byteOf a 4, byteOf a 5, byteOf a 6, byteOf a 7] := by
    simp [keyOf, List.range_succ_eq_map]
  rw [this, le_bytes a ha]
theorem keyOf_drop (a b : Nat) (hb : b < 2 ^ 64) : le ((keyOf a b 8).drop 8) = b := by
  have : (keyOf a b 8).drop 8 = [byteOf b 0, byteOf b 1, byteOf b 2, byteOf b 3, byteOf b 4, byteOf b 5, byteOf b 6, byteOf b 7] := by
    simp [keyOf, List.range_succ_eq_map]
  rw [this, le_bytes b hb]
theorem keyOf_bytes (a b k : Nat) : Bytes (keyOf a b k) := by
  intro c hc
  obtain ⟨i, _, rfl⟩ := List.mem_map.1 hc
  have h1 : ∀ x i, byteOf x i < 256 := fun x i => Nat.mod_lt _ (by decide)
  have := h1 a i
  have := h1 b (i - 8)
  split <;> split <;> omega
theorem byte_num (a i : Nat) (hi : i < 8) : IntKind.u8.wrap ((a : Int) / 2 ^ (8 * i)) = ((byteOf a i : Nat) : Int) := by
  have e : (a : Int) / 2 ^ (8 * i) = ((a / 2 ^ (8 * i) : Nat) : Int) := by rw [Int.natCast_ediv, Int.natCast_pow]; rfl
  have h : ∀ n : Int, IntKind.u8.wrap n = n % 256 := fun n => by simp [IntKind.wrap, IntKind.bits, IntKind.signed]
  rw [e, h]; unfold byteOf; omega
theorem keyOf_zero (a b : Nat) : keyOf a b 0 = keyAt 0 := by
  unfold keyOf keyAt
  apply List.map_congr_left
  intro i _
  split <;> simp
theorem keyV_size (l : List Nat) : (keyV l).size = l.length := by simp [keyV]
theorem keyV_one (l : List Nat) : (keyV l).all (·.oneCell') = true := by
  simp [keyV, Value.oneCell']
theorem Keep.setRow (w : World) (g : Nat) (cs : Array Value) (F : List Nat) (h : g ∈ F) : Keep w (w.setRow g cs) F :=
  ⟨rfl, rfl, rfl, by simp, fun j _ hn => setRow_other w g j cs (fun e => hn (e ▸ h))⟩
/-- k rounds of Key. -/
structure Ky (w0 w : World) (a b B k : Nat) : Prop where
  row : w.heap[B + 1]? = some (.cells (keyV (keyOf a b k)) 23 (0, 0))
  res : w.heap[B]? = some (.cells (keyV (keyAt 0)) 23 (0, 0))
  below : Below w0.heap.size w0 w
  base : w0.heap.size ≤ B
theorem Ky.step {w0 w : World} {a b B k : Nat} (h : Ky w0 w a b B k) (hk : k < 8) :
    Ky w0 ((w.setCell ⟨B + 1, k, none⟩ (.int .u8 (byteOf a k))).setCell ⟨B + 1, 8 + k, none⟩ (.int .u8 (byteOf b k))).drew a b B (k + 1) := by
  have hkp : Keep w ((w.setCell ⟨B + 1, k, none⟩ (.int .u8 (byteOf a k))).setCell ⟨B + 1, 8 + k, none⟩ (.int .u8 (byteOf b k))).drew [B + 1] := ((Keep.setCell w ⟨B + 1, k, none⟩ _ [B + 1] (by simp)).trans (Keep.setCell _ ⟨B + 1, 8 + k, none⟩ _ [B + 1] (by simp))).trans (Keep.drew _ _)
  have hs := (Array.getElem?_eq_some_iff.1 h.res).1
  refine ⟨?_, (hkp.block B hs (by simp)).trans h.res, hkp.below h.below (by intro j hj; rw [List.mem_singleton] at hj; have := h.base; omega), h.base⟩
  have h1 := heap_setCell_same _ (B + 1) (8 + k) _ 23 (.int .u8 (byteOf b k)) (heap_setCell_same w (B + 1) k _ 23 (.int .u8 (byteOf a k)) h.row)
  rw [keyV_set, keyV_set, keyOf_set a b k hk] at h1
  exact h1
set_option maxRecDepth 100000 in
theorem key_is (a b : Nat) (w : World) (ha : a < 2 ^ 64) (hb : b < 2 ^ 64) : Calls Tryd.prog 24 #[.int .u64 a, .int .u64 b] w fun e w' => e = .returned (.agg (keyV (keyOf a b 8))) ∧ Below w.heap.size w w' := by
  have hz := zero23
  have h0 : Hid (Ky w ((w.alloc (.cells (keyV (keyAt 0)) 23)).alloc (.cells (keyV (keyAt 0)) 23)) a b w.heap.size 0) := by
    refine ⟨?_, ?_, ?_, Nat.le_refl _⟩
    · have := heap_alloc_new (w.alloc (.cells (keyV (keyAt 0)) 23)) (.cells (keyV (keyAt 0)) 23)
      rw [World.size_alloc] at this
      rw [keyOf_zero]; exact this
    · rw [Go.heap_alloc_old _ _ (by simp)]; exact heap_alloc_new w _
    · exact ((Below.refl _ _).alloc (Nat.le_refl _) _).alloc (by simp) _
  go_enter Tryd.func24, Tryd.ntmps24
  go_wp2
  obtain ⟨B, hB⟩ : ∃ B, B = w.heap.size := ⟨_, rfl⟩
  rw [← hB] at h0
  rw [← hB]
  generalize (w.alloc (.cells (keyV (keyAt 0)) 23)).alloc (.cells (keyV (keyAt 0)) 23) = W0 at *
  clear hz hB
  go_loopw [7] (fun i wr => ∃ k : Nat, k ≤ 8 ∧ i = .int .i64 k ∧ Hid (Ky w wr a b B k)) (fun i _ => 8 - (intOf i).toNat)
  case atStart => exact ⟨0, by omega, rfl, h0⟩
  case round =>
    clear h0
    obtain ⟨k, hk, rfl, hA⟩ := hrel
    by_cases hlt : k < 8
    · have hc1 : ∃ v, wr.cell? ⟨B + 1, k, none⟩ = some v := ⟨_, (cell_of_row _ _ k _ 23 (0, 0) hA.out.row).trans (keyV_get _ k (by rw [keyOf_length]; omega))⟩
      have hc2 : ∃ v, wr.cell? ⟨B + 1, 8 + k, none⟩ = some v := ⟨_, (cell_of_row _ _ (8 + k) _ 23 (0, 0) hA.out.row).trans (keyV_get _ (8 + k) (by rw [keyOf_length]; omega))⟩
      obtain ⟨v1, hc1⟩ := hc1
      obtain ⟨v2, hc2⟩ := hc2
      have hf1 : wr.frozen? ⟨B + 1, k, none⟩ = false := frozen_of_row _ _ k _ 23 hA.out.row
      have hf2 : wr.frozen? ⟨B + 1, 8 + k, none⟩ = false := frozen_of_row _ _ (8 + k) _ 23 hA.out.row
      have hn1 := byte_num a k hlt
      have hn2 := byte_num b k hlt
      have hA1 := Lib.hid (hA.out.step hlt)
      clear hA
      go_wp2
      go_region
      go_wp2
      go_roundw
      case rel => exact ⟨k + 1, by omega, by go_num, hA1⟩
      case measure => simp [intOf]; omega
    · obtain rfl : k = 8 := by omega
      have hrow := hA.out.row
      have hres := hA.out.res
      have HA := Lib.hid hA.out.below
      have hsz : (Tryd.prog.info? 23).map (·.size) = some (keyV (keyOf a b 8)).size := by rw [keyV_size, keyOf_length]; kernel_rfl
      have hold : (keyV (keyAt 0)).size = (keyV (keyOf a b 8)).size := by rw [keyV_size, keyV_size, keyOf_length]; rfl
      have hone := keyV_one (keyOf a b 8)
      have hR : (wr.setRow B (keyV (keyOf a b 8))).heap[B]? = some (.cells (keyV (keyOf a b 8)) 23 (0, 0)) := setRow_heap wr B _ _ 23 (0, 0) hres
      have HR := Lib.hid hR
      have HK : Hid (Below w.heap.size w (wr.setRow B (keyV (keyOf a b 8)))) := by
        show Below w.heap.size w _
        refine (Keep.setRow wr B (keyV (keyOf a b 8)) [B] (by simp)).below hA.out.below ?_
        intro j hj; rw [List.mem_singleton] at hj; rw [hj]; exact hA.out.base
      clear hA hR
      go_wp2_with (first | (refine wpList_load_row rfl 23 _ rfl (B + 1) rfl 23 (keyV (keyOf a b 8)) (0, 0) _ hrow Tryd.underlying23 rfl (by kernel_rfl) ?_) | (refine wpList_store_row rfl 23 _ _ rfl B (keyV (keyOf a b 8)) rfl rfl 23 _ hres hsz hold hone ?_))
      refine bodyPost_ret (v := .agg (keyV (keyOf a b 8))) (results_cell_row Tryd.results24 _ _ B 23 _ (0, 0) _ rfl HR.out Tryd.underlying23 rfl hsz) rfl ⟨rfl, HK.out⟩
end Go.Proofs.YthmiomncgkmnoaaDoor
