/- The walks of Seal and Open of package crc. -/
import Derived.Test.YthhfogpkaeminaaCrcWalk
import Derived.Test.YthhfogpkaeminaaRowOf
namespace Go.Proofs.Ythhfogpkaeminaa
open Go.RowKit Go.Sort
theorem crcSum_bound (s : ByteArray) : 0 ≤ crcSum s ∧ crcSum s < 65536 := by
  unfold crcSum crcMore
  have := (Crc.more (BitVec.ofInt 16 65535) (bs s)).isLt
  omega
/-- Two bytes as a text. -/
def two (x y : Int) : ByteArray := strOfNums [x, y]
theorem two_size (x y : Int) : (two x y).size = 2 := by unfold two; rw [strOfNums_size]; rfl
theorem two_string (W : World) (x y : Int) : (convert 26 9 (.slice (some ⟨W.heap.size, 0, none⟩) 2 2)).run Try.prog (W.alloc (.cells #[.int .u8 x, .int .u8 y] 5)) = .ok (.string (two x y)) (W.alloc (.cells #[.int .u8 x, .int .u8 y] 5)) :=
  run_convert_bytes_arg _ 26 5 Try.underlying26 Try.underlying5 _ 0 2 2 [x, y] rfl (fun i hi => by
    rw [Nat.zero_add, World.cell?_alloc_mark]
    match i, hi with
    | 0, _ => rfl
    | 1, _ => rfl) 9 Try.underlying9
/-- A sum's two bytes. -/
def tail (x : Int) : ByteArray := two (x / 256) (x % 256)
set_option maxRecDepth 100000 in
theorem seal_is (s : ByteArray) (hs : s.size ≤ 140737488351232) (w : World) :
    Calls Try.prog 24 #[.string s] w fun e w' => e = .returned (.string (s ++ tail (crcSum s))) ∧ Below w.heap.size w w' := by
  have hb0 := Below.refl w.heap.size w
  obtain ⟨h0, h1⟩ := crcSum_bound s
  have kc := two_string
  have n1 : ¬ 9223372036854775807 < s.size + (two (crcSum s / 256) (crcSum s % 256)).size := by rw [two_size]; omega
  go_enter Try.func24, Try.ntmps24
  go_wp2_with (go_at_call 16; refine (on_base (by assumption) (sum_is _ (by omega) _)).mono ?_; rintro e w1 ⟨rfl, hb1⟩)
  go_ret
  exact ⟨rfl, hb1.alloc hb1.size _⟩
def body (s : ByteArray) : ByteArray := s.extract 0 (s.size - 2)
/-- What Seal answers. -/
def sealOf (s : ByteArray) : ByteArray := s ++ tail (crcSum s)
/-- What Open answers. -/
def openOf (s : ByteArray) : ByteArray × Int :=
  if s.size < 2 then (⟨#[]⟩, 2) else if sealOf (body s) = s then (body s, 0) else (⟨#[]⟩, 4)
theorem toList_iff (a b : ByteArray) : a.toList = b.toList ↔ a = b := by
  constructor
  · intro h
    rw [ByteArray.toList_eq, ByteArray.toList_eq] at h
    exact ByteArray.ext (Array.toList_inj.1 h)
  · rintro rfl; rfl
set_option maxRecDepth 100000 in
theorem open_is (s : ByteArray) (hs1 : s.size ≤ 140737488351232) (w : World) :
    Calls Try.prog 25 #[.string s] w fun e w' => e = .returned (.tuple #[.string (openOf s).1, .int .i64 (openOf s).2]) ∧ Below w.heap.size w w' := by
  have hb0 := Below.refl w.heap.size w
  by_cases hs : s.size < 2
  · have HO : Hid (openOf s = (⟨#[]⟩, 2)) := by unfold openOf; rw [if_pos hs]; exact rfl
    go_enter Try.func25, Try.ntmps25
    go_wp2
    go_ret2
    rw [HO.out]
    exact ⟨rfl, hb0⟩
  · have hs2 : 2 ≤ s.size := by omega
    by_cases hq : sealOf (body s) = s
    · have HO : Hid (openOf s = (body s, 0)) := by unfold openOf; rw [if_neg hs, if_pos hq]; exact rfl
      have hb : ((s.extract 0 (s.size - 2) ++ tail (crcSum (s.extract 0 (s.size - 2)))).toList == s.toList) = true := by
        simp only [beq_iff_eq]; exact (toList_iff _ _).2 hq
      clear hq hs
      go_enter Try.func25, Try.ntmps25
      go_wp2_with (go_at_call 24; refine (on_base (by assumption) (seal_is _ (by simp; omega) _)).mono ?_; rintro e w1 ⟨rfl, hb1⟩)
      go_ret2
      rw [HO.out]
      exact ⟨rfl, hb1⟩
    · have HO : Hid (openOf s = (⟨#[]⟩, 4)) := by unfold openOf; rw [if_neg hs, if_neg hq]; exact rfl
      have hb : ((s.extract 0 (s.size - 2) ++ tail (crcSum (s.extract 0 (s.size - 2)))).toList == s.toList) = false := by
        rw [Bool.eq_false_iff]; simp only [ne_eq, beq_iff_eq]; exact fun h => hq ((toList_iff _ _).1 h)
      clear hq hs
      go_enter Try.func25, Try.ntmps25
      go_wp2_with (go_at_call 24; refine (on_base (by assumption) (seal_is _ (by simp; omega) _)).mono ?_; rintro e w1 ⟨rfl, hb1⟩)
      go_ret2
      rw [HO.out]
      exact ⟨rfl, hb1⟩
end Go.Proofs.Ythhfogpkaeminaa
