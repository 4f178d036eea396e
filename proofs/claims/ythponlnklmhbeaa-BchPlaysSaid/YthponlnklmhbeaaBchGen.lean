/- The walks of bch.roots and bch.Generator. -/
import Derived.Test.YthponlnklmhbeaaBchTells
import Derived.Test.YthponlnklmhbeaaBchGenPure
import Derived.Deep.OwnRows
set_option linter.unusedVariables false
set_option linter.unusedSimpArgs false
namespace Go.Proofs.Ythponlnklmhbeaa
open Go.RowKit Go.Sort F7
theorem zero39 : ∀ w, (zeroValue 39).run Try.prog w = .ok (.agg (wordV fun _ => false)) w := by
  have h : (Try.prog.info? 39).map (fun i => i.zero) = some (some (.agg (wordV fun _ => false))) := by kernel_rfl
  intro w
  obtain ⟨i, hi, hz⟩ := Option.map_eq_some_iff.1 h
  simp [zeroValue, typeInfo, hi, hz]
theorem zero41 : ∀ w, (zeroValue 41).run Try.prog w = .ok (.agg (wordV fun _ => false)) w := by
  have h : (Try.prog.info? 41).map (fun i => i.zero) = some (some (.agg (wordV fun _ => false))) := by kernel_rfl
  intro w
  obtain ⟨i, hi, hz⟩ := Option.map_eq_some_iff.1 h
  simp [zeroValue, typeInfo, hi, hz]
theorem size39 (f : Nat → Bool) : (Try.prog.info? 39).map (·.size) = some (wordV f).size := by rw [wordV_size]; kernel_rfl
theorem size41 (f : Nat → Bool) : (Try.prog.info? 41).map (·.size) = some (wordV f).size := by rw [wordV_size]; kernel_rfl
theorem Keep.setRow (w : World) (g : Nat) (cs : Array Value) (F : List Nat) (h : g ∈ F) : Keep w (w.setRow g cs) F :=
  ⟨rfl, rfl, rfl, by simp, fun j _ hn => setRow_other w g j cs (fun e => hn (e ▸ h))⟩
/-- Block c is the word f; block r, the result's, is a word too. -/
structure Wr (t : TypeId) (w0 w : World) (r c : Nat) (f : Nat → Bool) : Prop where
  word : Wd t w c f
  res : Wd t w r fun _ => false
  below : Below w0.heap.size w0 w
  new : w0.heap.size ≤ r
  new' : w0.heap.size ≤ c
  ne : r ≠ c
theorem Wr.set {t : TypeId} {w0 w : World} {r c : Nat} {f : Nat → Bool} (h : Wr t w0 w r c f) (i : Nat) (x : Bool) : Wr t w0 (w.setCell ⟨c, i, none⟩ (.bool x)) r c (fun m => if m = i then x else f m) :=
  ⟨h.word.set i x, h.res.keep (Keep.setCell w ⟨c, i, none⟩ _ [c] (by simp)) (by simpa using h.ne), below_gb h.below (gb_setCell _ ⟨c, i, none⟩ _) h.below.size h.new', h.new, h.new', h.ne⟩
/-- The result stored. -/
theorem Wr.done {t : TypeId} {w0 w : World} {r c : Nat} {f : Nat → Bool} (h : Wr t w0 w r c f) : (w.setRow r (wordV f)).heap[r]? = some (.cells (wordV f) t (0, 0)) ∧ Below w0.heap.size w0 (w.setRow r (wordV f)) :=
  ⟨setRow_heap w r _ _ t _ h.res, (Keep.setRow w r _ [r] (by simp)).below h.below (by intro j hj; rw [List.mem_singleton] at hj; rw [hj]; exact h.new)⟩
theorem shl_num (i j : Nat) (hi : i ≤ 20) (hj : j < 7) : IntKind.i64.wrap ((i : Int) * 2 ^ j) = ((i * 2 ^ j : Nat) : Int) := by
  have e : (i : Int) * 2 ^ j = ((i * 2 ^ j : Nat) : Int) := by rw [Int.natCast_mul, Int.natCast_pow]; rfl
  have h1 : 2 ^ j ≤ 2 ^ 6 := Nat.pow_le_pow_right (by decide) (by omega)
  have h2 : i * 2 ^ j ≤ 20 * 2 ^ 6 := Nat.mul_le_mul hi h1
  rw [e]
  exact wraps_i64 _ (by omega) (by omega)
set_option maxRecDepth 100000 in
theorem roots_is (w : World) : Calls Try.prog 39 #[] w fun e w' => e = .returned (.agg (wordV RT)) ∧ Below w.heap.size w w' := by
  have hz := zero39
  have h0 : Hid (Wr 39 w ((w.alloc (.cells (wordV fun _ => false) 39)).alloc (.cells (wordV fun _ => false) 39)) w.heap.size (w.heap.size + 1) (rts 1 0)) := by
    refine ⟨?_, ?_, ?_, Nat.le_refl _, by omega, by omega⟩
    · have := Wd.boxed (w.alloc (.cells (wordV fun _ => false) 39)) 39 (fun _ => false)
      rw [World.size_alloc] at this
      rw [rts_zero]; exact this
    · exact (Wd.boxed w 39 _).below ((Below.refl _ _).alloc (Nat.le_refl _) _)
    · exact ((Below.refl _ _).alloc (Nat.le_refl _) _).alloc (by simp) _
  go_enter Try.func39, Try.ntmps39
  go_wp2
  obtain ⟨r, hr⟩ : ∃ r, r = w.heap.size := ⟨_, rfl⟩
  rw [← hr] at h0
  rw [← hr]
  generalize (w.alloc (.cells (wordV fun _ => false) 39)).alloc (.cells (wordV fun _ => false) 39) = W0 at *
  clear hz hr
  go_loopw [2] (fun i wr => ∃ k : Nat, 1 ≤ k ∧ k ≤ 21 ∧ i = .int .i64 k ∧ Hid (Wr 39 w wr r (r + 1) (rts k 0))) (fun i _ => 21 - (intOf i).toNat)
  case atStart => exact ⟨1, by omega, by omega, rfl, h0⟩
  case round =>
    clear h0
    obtain ⟨k, hk0, hk, rfl, hA⟩ := hrel
    obtain ⟨wo, rfl⟩ : ∃ wo : World, wo = wr := ⟨_, rfl⟩
    by_cases hlt : k ≤ 20
    · go_wp2
      go_loopw [8] (fun j wr => ∃ m : Nat, m ≤ 7 ∧ j = .int .i64 m ∧ Hid (Wr 39 w wr r (r + 1) (rts k m))) (fun j _ => 7 - (intOf j).toNat)
      case atStart => exact ⟨0, by omega, rfl, hA⟩
      case round =>
        clear hA
        obtain ⟨m, hm, rfl, hI⟩ := hrel
        by_cases hml : m < 7
        · have hsh := shl_num k m hlt hml
          obtain ⟨M, hM⟩ : ∃ M, M = k * 2 ^ m := ⟨_, rfl⟩
          have hst := rts_step k m
          rw [← hM] at hsh hst
          obtain ⟨R, hR⟩ : ∃ R, R = M % 127 := ⟨_, rfl⟩
          have hRl : R < 127 := by rw [hR]; exact Nat.mod_lt _ (by decide)
          have hRM : (M : Int) % 127 = (R : Int) := by rw [hR, Int.natCast_emod]; rfl
          rw [← hR] at hst
          have hc := hI.out.word.cell R hRl
          have hf := hI.out.word.free R
          have hN : Hid (Wr 39 w (wr.setCell ⟨r + 1, R, none⟩ (.bool true)) r (r + 1) (rts k (m + 1))) := by
            show Wr 39 w _ r (r + 1) _
            rw [hst]; exact hI.out.set R true
          clear hI hst hM hR
          go_wp2
          go_roundw
          case rel => exact ⟨m + 1, by omega, by go_num, hN⟩
          case measure => simp [intOf]; omega
        · obtain rfl : m = 7 := by omega
          rw [rts_row k hk0] at hI
          go_wp2
          go_roundw
          case rel => exact ⟨k + 1, by omega, by omega, by go_num, hI⟩
          case measure => simp [intOf]; omega
    · obtain rfl : k = 21 := by omega
      have hw := hA.out.word
      have hres := hA.out.res
      obtain ⟨h1, h2⟩ := hA.out.done
      have HD := Lib.hid (And.intro h1 h2)
      have hsz := Lib.hid (size39 RT)
      have hold : Hid ((wordV fun _ => false).size = (wordV RT).size) := by show (wordV _).size = (wordV _).size; rw [wordV_size, wordV_size]
      clear hA h1 h2
      go_wp2_with (first | (refine wpList_load_row rfl 39 _ rfl (r + 1) rfl 39 (wordV RT) (0, 0) _ hw Try.underlying39 rfl hsz.out ?_) | (refine wpList_store_row rfl 39 _ _ rfl r (wordV RT) rfl rfl 39 _ hres hsz.out hold.out (wordV_one RT) ?_))
      exact bodyPost_ret (v := .agg (wordV RT)) (results_cell_row Try.results39 _ _ r 39 _ (0, 0) _ rfl HD.out.1 Try.underlying39 rfl hsz.out) rfl ⟨rfl, HD.out.2⟩
end Go.Proofs.Ythponlnklmhbeaa
