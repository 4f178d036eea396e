/- Two appends, each kept in its box, in a drawn order: what holds while they run. -/
import Derived.Test.YthoemgiadadfcaaWsSv
set_option linter.unusedVariables false
set_option linter.unusedSimpArgs false
namespace Go.Proofs.Ythoemgiadadfcaa
open Go.RowKit Go.Sort Ws
structure S9 (n0 : Nat) (X : List Nat) (W w : World) (d : Nat → Bool) (v1 v2 : Value) (l1 l2 : List Int) (a b : Int) (B1 B2 : Nat) (s32 s33 s34 s35 s36 s37 s38 s39 : Value) : Prop where
  e0 : d 0 = true → s32 = v1
  e1 : d 1 = true → s33 = .int .i64 a
  e4 : d 4 = true → s36 = v2
  e5 : d 5 = true → s37 = .int .i64 b
  e2 : d 2 = true → ∃ p, s34 = .slice (some ⟨p, 0, none⟩) 1 1 ∧ (d 3 = false → w.heap[p]? = some (.cells #[.int .i64 a] 3 (0, 0)))
  e6 : d 6 = true → ∃ p, s38 = .slice (some ⟨p, 0, none⟩) 1 1 ∧ (d 7 = false → w.heap[p]? = some (.cells #[.int .i64 b] 3 (0, 0)) ∧ (d 3 = false → p ∉ foot v1))
  sv : Sv n0 X w (if d 3 = true then s35 else v1) (if d 7 = true then s39 else v2) (if d 3 = true then l1 ++ [a] else l1) (if d 7 = true then l2 ++ [b] else l2) B1 B2 (if d 8 = true then s35 else v1) (if d 9 = true then s39 else v2)
  kx : Kx n0 X W w
  m3 : d 3 = true → d 0 = true ∧ d 2 = true
  m7 : d 7 = true → d 3 = true ∧ d 4 = true
  m8 : d 8 = true → d 7 = true
  m9 : d 9 = true → d 8 = true
section
variable {n0 : Nat} {X : List Nat} {W w : World} {d : Nat → Bool} {v1 v2 : Value} {l1 l2 : List Int} {a b : Int} {B1 B2 : Nat} {s32 s33 s34 s35 s36 s37 s38 s39 : Value}
theorem S9.start (h : Sv n0 X W v1 v2 l1 l2 B1 B2 v1 v2) (hn : n0 ≤ W.heap.size) (s32 s33 s34 s35 s36 s37 s38 s39 : Value) : S9 n0 X W W.drew (fun _ => false) v1 v2 l1 l2 a b B1 B2 s32 s33 s34 s35 s36 s37 s38 s39 := by
  have hb : Below W.heap.size W W.drew := ⟨rfl, rfl, rfl, Nat.le_refl _, fun _ _ => rfl⟩
  refine ⟨nofun, nofun, nofun, nofun, nofun, nofun, ?_, h.kxN hn hb, nofun, nofun, nofun, nofun⟩
  simpa using h.later hb
theorem S9.off8 (h : S9 n0 X W w d v1 v2 l1 l2 a b B1 B2 s32 s33 s34 s35 s36 s37 s38 s39) (h7 : d 7 = false) : d 8 = false ∧ d 9 = false := by
  have h8 : d 8 = false := by
    cases h8 : d 8 with
    | false => rfl
    | true => rw [h.m8 h8] at h7; cases h7
  refine ⟨h8, ?_⟩
  cases h9 : d 9 with
  | false => rfl
  | true => rw [h.m9 h9] at h8; cases h8
theorem S9.off7 (h : S9 n0 X W w d v1 v2 l1 l2 a b B1 B2 s32 s33 s34 s35 s36 s37 s38 s39) (h3 : d 3 = false ∨ d 4 = false) : d 7 = false := by
  cases h7 : d 7 with
  | false => rfl
  | true =>
    obtain ⟨h1, h2⟩ := h.m7 h7
    rcases h3 with h3 | h3
    · rw [h1] at h3; cases h3
    · rw [h2] at h3; cases h3
theorem S9.off3 (h : S9 n0 X W w d v1 v2 l1 l2 a b B1 B2 s32 s33 s34 s35 s36 s37 s38 s39) (h3 : d 0 = false) : d 3 = false := by
  cases h7 : d 3 with
  | false => rfl
  | true => rw [(h.m3 h7).1] at h3; cases h3
theorem S9.box1 (h : S9 n0 X W w d v1 v2 l1 l2 a b B1 B2 s32 s33 s34 s35 s36 s37 s38 s39) (h0 : d 0 = false) : w.heap[B1]? = some (.cells #[v1] 22 (0, 0)) := by
  have := h.sv.b1
  rw [(h.off8 (h.off7 (.inl (h.off3 h0)))).1] at this
  simpa using this
theorem S9.box2 (h : S9 n0 X W w d v1 v2 l1 l2 a b B1 B2 s32 s33 s34 s35 s36 s37 s38 s39) (h0 : d 4 = false) : w.heap[B2]? = some (.cells #[v2] 22 (0, 0)) := by
  have := h.sv.b2
  rw [(h.off8 (h.off7 (.inr h0))).2] at this
  simpa using this
theorem S9.set0 (h : S9 n0 X W w d v1 v2 l1 l2 a b B1 B2 s32 s33 s34 s35 s36 s37 s38 s39) : S9 n0 X W w (also d 0) v1 v2 l1 l2 a b B1 B2 v1 s33 s34 s35 s36 s37 s38 s39 := by
  refine ⟨fun _ => rfl, ?_, ?_, ?_, ?_, ?_, ?_, h.kx, ?_, ?_, ?_, ?_⟩
  · simpa [also] using h.e1
  · simpa [also] using h.e4
  · simpa [also] using h.e5
  · simpa [also] using h.e2
  · simpa [also] using h.e6
  · simpa [also] using h.sv
  · have := h.m3; simp [also]; exact fun h => (this h).2
  · simpa [also] using h.m7
  · simpa [also] using h.m8
  · simpa [also] using h.m9
theorem S9.set1 (h : S9 n0 X W w d v1 v2 l1 l2 a b B1 B2 s32 s33 s34 s35 s36 s37 s38 s39) : S9 n0 X W w (also d 1) v1 v2 l1 l2 a b B1 B2 s32 (.int .i64 a) s34 s35 s36 s37 s38 s39 := by
  refine ⟨?_, fun _ => rfl, ?_, ?_, ?_, ?_, ?_, h.kx, ?_, ?_, ?_, ?_⟩
  · simpa [also] using h.e0
  · simpa [also] using h.e4
  · simpa [also] using h.e5
  · simpa [also] using h.e2
  · simpa [also] using h.e6
  · simpa [also] using h.sv
  · simpa [also] using h.m3
  · simpa [also] using h.m7
  · simpa [also] using h.m8
  · simpa [also] using h.m9
theorem S9.set4 (h : S9 n0 X W w d v1 v2 l1 l2 a b B1 B2 s32 s33 s34 s35 s36 s37 s38 s39) : S9 n0 X W w (also d 4) v1 v2 l1 l2 a b B1 B2 s32 s33 s34 s35 v2 s37 s38 s39 := by
  refine ⟨?_, ?_, fun _ => rfl, ?_, ?_, ?_, ?_, h.kx, ?_, ?_, ?_, ?_⟩
  · simpa [also] using h.e0
  · simpa [also] using h.e1
  · simpa [also] using h.e5
  · simpa [also] using h.e2
  · simpa [also] using h.e6
  · simpa [also] using h.sv
  · simpa [also] using h.m3
  · have := h.m7; simp [also]; exact fun h => (this h).1
  · simpa [also] using h.m8
  · simpa [also] using h.m9
theorem S9.set5 (h : S9 n0 X W w d v1 v2 l1 l2 a b B1 B2 s32 s33 s34 s35 s36 s37 s38 s39) : S9 n0 X W w (also d 5) v1 v2 l1 l2 a b B1 B2 s32 s33 s34 s35 s36 (.int .i64 b) s38 s39 := by
  refine ⟨?_, ?_, ?_, fun _ => rfl, ?_, ?_, ?_, h.kx, ?_, ?_, ?_, ?_⟩
  · simpa [also] using h.e0
  · simpa [also] using h.e1
  · simpa [also] using h.e4
  · simpa [also] using h.e2
  · simpa [also] using h.e6
  · simpa [also] using h.sv
  · simpa [also] using h.m3
  · simpa [also] using h.m7
  · simpa [also] using h.m8
  · simpa [also] using h.m9
theorem S9.make1 (h : S9 n0 X W w d v1 v2 l1 l2 a b B1 B2 s32 s33 s34 s35 s36 s37 s38 s39) (hn : n0 ≤ W.heap.size) : S9 n0 X W (w.alloc (.cells #[.int .i64 a] 3)) (also d 2) v1 v2 l1 l2 a b B1 B2 s32 s33 (.slice (some ⟨w.heap.size, 0, none⟩) 1 1) s35 s36 s37 s38 s39 := by
  have hb : Below w.heap.size w (w.alloc (.cells #[.int .i64 a] 3)) := (Below.refl _ _).alloc (Nat.le_refl _) _
  have hn2 := h.kx.below.size
  refine ⟨?_, ?_, ?_, ?_, fun _ => ⟨_, rfl, fun _ => heap_alloc_new w _⟩, ?_, ?_, h.kx.trans (h.sv.kxN (by omega) hb), ?_, ?_, ?_, ?_⟩
  · simpa [also] using h.e0
  · simpa [also] using h.e1
  · simpa [also] using h.e4
  · simpa [also] using h.e5
  · intro h6
    obtain ⟨p, hp1, hp2⟩ := h.e6 (by simpa [also] using h6)
    refine ⟨p, hp1, fun h7 => ?_⟩
    obtain ⟨h8, h9⟩ := hp2 (by simpa [also] using h7)
    exact ⟨(hb.block p (Array.getElem?_eq_some_iff.1 h8).1).trans h8, by simpa [also] using h9⟩
  · have := h.sv.later hb; simpa [also] using this
  · have := h.m3; simp [also]; exact fun h => (this h).1
  · simpa [also] using h.m7
  · simpa [also] using h.m8
  · simpa [also] using h.m9
theorem S9.make2 (h : S9 n0 X W w d v1 v2 l1 l2 a b B1 B2 s32 s33 s34 s35 s36 s37 s38 s39) (hn : n0 ≤ W.heap.size) : S9 n0 X W (w.alloc (.cells #[.int .i64 b] 3)) (also d 6) v1 v2 l1 l2 a b B1 B2 s32 s33 s34 s35 s36 s37 (.slice (some ⟨w.heap.size, 0, none⟩) 1 1) s39 := by
  have hb : Below w.heap.size w (w.alloc (.cells #[.int .i64 b] 3)) := (Below.refl _ _).alloc (Nat.le_refl _) _
  have hn2 := h.kx.below.size
  refine ⟨?_, ?_, ?_, ?_, ?_, fun _ => ⟨_, rfl, fun _ => ⟨heap_alloc_new w _, fun h3 => ?_⟩⟩, ?_, h.kx.trans (h.sv.kxN (by omega) hb), ?_, ?_, ?_, ?_⟩
  · simpa [also] using h.e0
  · simpa [also] using h.e1
  · simpa [also] using h.e4
  · simpa [also] using h.e5
  · intro h2
    obtain ⟨p, hp1, hp2⟩ := h.e2 (by simpa [also] using h2)
    refine ⟨p, hp1, fun h3 => ?_⟩
    have h8 := hp2 (by simpa [also] using h3)
    exact (hb.block p (Array.getElem?_eq_some_iff.1 h8).1).trans h8
  · have h3' : d 3 = false := by simpa [also] using h3
    have := h.sv.o1
    rw [h3'] at this
    intro hf
    have := Own.lt this _ (by simpa using hf)
    omega
  · have := h.sv.later hb; simpa [also] using this
  · simpa [also] using h.m3
  · simpa [also] using h.m7
  · simpa [also] using h.m8
  · simpa [also] using h.m9
theorem S9.pre1 (h : S9 n0 X W w d v1 v2 l1 l2 a b B1 B2 s32 s33 s34 s35 s36 s37 s38 s39) (h3 : d 3 = false) : Own w 3 .i64 v1 l1 := by
  have := h.sv.o1
  rw [h3] at this
  simpa using this
theorem S9.pre2 (h : S9 n0 X W w d v1 v2 l1 l2 a b B1 B2 s32 s33 s34 s35 s36 s37 s38 s39) (h3 : d 7 = false) : Own w 3 .i64 v2 l2 := by
  have := h.sv.o2
  rw [h3] at this
  simpa using this
theorem S9.app1 (h : S9 n0 X W w d v1 v2 l1 l2 a b B1 B2 s32 s33 s34 s35 s36 s37 s38 s39) (hn : n0 ≤ W.heap.size) (h3 : d 3 = false) (h0 : d 0 = true ∧ d 2 = true) {w1 : World} {g cap : Nat}
    (ho : Own w1 3 .i64 (.slice (some ⟨g, 0, none⟩) (l1 ++ [a]).length cap) (l1 ++ [a])) (hk : Keep w w1 (foot v1)) (hf : g ∈ foot v1 ∨ w.heap.size ≤ g) :
    S9 n0 X W w1 (also d 3) v1 v2 l1 l2 a b B1 B2 s32 s33 s34 (.slice (some ⟨g, 0, none⟩) (l1 ++ [a]).length cap) s36 s37 s38 s39 := by
  have h7 := h.off7 (.inl h3)
  obtain ⟨h8, h9⟩ := h.off8 h7
  have hn2 := h.kx.below.size
  have hsv : Sv n0 X w v1 v2 l1 l2 B1 B2 v1 v2 := by simpa [h3, h7, h8, h9] using h.sv
  refine ⟨?_, ?_, ?_, ?_, ?_, ?_, ?_, h.kx.trans (hsv.kx1 (by omega) hk), ?_, ?_, ?_, ?_⟩
  · simpa [also] using h.e0
  · simpa [also] using h.e1
  · simpa [also] using h.e4
  · simpa [also] using h.e5
  · intro h2
    obtain ⟨p, hp1, hp2⟩ := h.e2 (by simpa [also] using h2)
    exact ⟨p, hp1, fun h => by simp [also] at h⟩
  · intro h6
    obtain ⟨p, hp1, hp2⟩ := h.e6 (by simpa [also] using h6)
    refine ⟨p, hp1, fun _ => ?_⟩
    obtain ⟨h8, h9⟩ := hp2 h7
    exact ⟨(hk.block p (Array.getElem?_eq_some_iff.1 h8).1 (h9 h3)).trans h8, fun h => by simp [also] at h⟩
  · have := hsv.app1 ho hk hf (by omega)
    simpa [also, h7, h8, h9] using this
  · simpa [also] using h0
  · simp [also, h7]
  · simp [also, h8]
  · simp [also, h9]
theorem S9.app2 (h : S9 n0 X W w d v1 v2 l1 l2 a b B1 B2 s32 s33 s34 s35 s36 s37 s38 s39) (hn : n0 ≤ W.heap.size) (h7 : d 7 = false) (h3 : d 3 = true) (h4 : d 4 = true) {w1 : World} {g cap : Nat}
    (ho : Own w1 3 .i64 (.slice (some ⟨g, 0, none⟩) (l2 ++ [b]).length cap) (l2 ++ [b])) (hk : Keep w w1 (foot v2)) (hf : g ∈ foot v2 ∨ w.heap.size ≤ g) :
    S9 n0 X W w1 (also d 7) v1 v2 l1 l2 a b B1 B2 s32 s33 s34 s35 s36 s37 s38 (.slice (some ⟨g, 0, none⟩) (l2 ++ [b]).length cap) := by
  obtain ⟨h8, h9⟩ := h.off8 h7
  have hn2 := h.kx.below.size
  have hsv : Sv n0 X w s35 v2 (l1 ++ [a]) l2 B1 B2 v1 v2 := by simpa [h3, h7, h8, h9] using h.sv
  refine ⟨?_, ?_, ?_, ?_, ?_, ?_, ?_, h.kx.trans (hsv.kx2 (by omega) hk), ?_, ?_, ?_, ?_⟩
  · simpa [also] using h.e0
  · simpa [also] using h.e1
  · simpa [also] using h.e4
  · simpa [also] using h.e5
  · intro h2
    obtain ⟨p, hp1, hp2⟩ := h.e2 (by simpa [also] using h2)
    exact ⟨p, hp1, fun h => by simp [also, h3] at h⟩
  · intro h6
    obtain ⟨p, hp1, hp2⟩ := h.e6 (by simpa [also] using h6)
    exact ⟨p, hp1, fun h => by simp [also] at h⟩
  · have := hsv.app2 ho hk hf (by omega)
    simpa [also, h3, h8, h9] using this
  · simpa [also] using h.m3
  · simp [also, h3, h4]
  · simp [also, h8]
  · simp [also, h9]
theorem S9.put1 (h : S9 n0 X W w d v1 v2 l1 l2 a b B1 B2 s32 s33 s34 s35 s36 s37 s38 s39) (hn : n0 ≤ W.heap.size) (h8 : d 8 = false) (h3 : d 3 = true) (h7 : d 7 = true) :
    S9 n0 X W (w.setCell ⟨B1, 0, none⟩ s35) (also d 8) v1 v2 l1 l2 a b B1 B2 s32 s33 s34 s35 s36 s37 s38 s39 := by
  have h9 : d 9 = false := by
    cases h9 : d 9 with
    | false => rfl
    | true => rw [h.m9 h9] at h8; cases h8
  have hn2 := h.kx.below.size
  have hsv : Sv n0 X w s35 s39 (l1 ++ [a]) (l2 ++ [b]) B1 B2 v1 v2 := by simpa [h3, h7, h8, h9] using h.sv
  refine ⟨?_, ?_, ?_, ?_, ?_, ?_, ?_, h.kx.trans (hsv.kxB1 (by omega) s35), ?_, ?_, ?_, ?_⟩
  · simpa [also] using h.e0
  · simpa [also] using h.e1
  · simpa [also] using h.e4
  · simpa [also] using h.e5
  · intro h2
    obtain ⟨p, hp1, hp2⟩ := h.e2 (by simpa [also] using h2)
    exact ⟨p, hp1, fun h => by simp [also, h3] at h⟩
  · intro h6
    obtain ⟨p, hp1, hp2⟩ := h.e6 (by simpa [also] using h6)
    exact ⟨p, hp1, fun h => by simp [also, h7] at h⟩
  · have := hsv.put1 s35
    simpa [also, h3, h7, h9] using this
  · simpa [also] using h.m3
  · simpa [also] using h.m7
  · simp [also, h7]
  · simp [also, h9]
theorem S9.put2 (h : S9 n0 X W w d v1 v2 l1 l2 a b B1 B2 s32 s33 s34 s35 s36 s37 s38 s39) (hn : n0 ≤ W.heap.size) (h9 : d 9 = false) (h7 : d 7 = true) (h8 : d 8 = true) :
    S9 n0 X W (w.setCell ⟨B2, 0, none⟩ s39) (also d 9) v1 v2 l1 l2 a b B1 B2 s32 s33 s34 s35 s36 s37 s38 s39 := by
  have h3 := (h.m7 h7).1
  have hn2 := h.kx.below.size
  have hsv : Sv n0 X w s35 s39 (l1 ++ [a]) (l2 ++ [b]) B1 B2 s35 v2 := by simpa [h3, h7, h8, h9] using h.sv
  refine ⟨?_, ?_, ?_, ?_, ?_, ?_, ?_, h.kx.trans (hsv.kxB2 (by omega) s39), ?_, ?_, ?_, ?_⟩
  · simpa [also] using h.e0
  · simpa [also] using h.e1
  · simpa [also] using h.e4
  · simpa [also] using h.e5
  · intro h2
    obtain ⟨p, hp1, hp2⟩ := h.e2 (by simpa [also] using h2)
    exact ⟨p, hp1, fun h => by simp [also, h3] at h⟩
  · intro h6
    obtain ⟨p, hp1, hp2⟩ := h.e6 (by simpa [also] using h6)
    exact ⟨p, hp1, fun h => by simp [also, h7] at h⟩
  · have := hsv.put2 s39
    simpa [also, h3, h7, h8] using this
  · simpa [also] using h.m3
  · simpa [also] using h.m7
  · simpa [also] using h.m8
  · simp [also, h8]
theorem S9.done (h : S9 n0 X W w d v1 v2 l1 l2 a b B1 B2 s32 s33 s34 s35 s36 s37 s38 s39) (h9 : d 9 = true) : Sv n0 X w s35 s39 (l1 ++ [a]) (l2 ++ [b]) B1 B2 s35 s39 ∧ Kx n0 X W w := by
  have h8 := h.m9 h9
  have h7 := h.m8 h8
  have h3 := (h.m7 h7).1
  exact ⟨by simpa [h3, h7, h8, h9] using h.sv, h.kx⟩
theorem S9.form1 (h : S9 n0 X W w d v1 v2 l1 l2 a b B1 B2 s32 s33 s34 s35 s36 s37 s38 s39) (h3 : d 3 = true) : ∃ g n c, s35 = .slice (some ⟨g, 0, none⟩) n c := by
  have := h.sv.o1
  rw [h3] at this
  simp only [if_true] at this
  obtain ⟨g, c, e⟩ := Own.form this (by simp)
  exact ⟨g, _, c, e⟩
theorem S9.form2 (h : S9 n0 X W w d v1 v2 l1 l2 a b B1 B2 s32 s33 s34 s35 s36 s37 s38 s39) (h3 : d 7 = true) : ∃ g n c, s39 = .slice (some ⟨g, 0, none⟩) n c := by
  have := h.sv.o2
  rw [h3] at this
  simp only [if_true] at this
  obtain ⟨g, c, e⟩ := Own.form this (by simp)
  exact ⟨g, _, c, e⟩
end
end Go.Proofs.Ythoemgiadadfcaa
