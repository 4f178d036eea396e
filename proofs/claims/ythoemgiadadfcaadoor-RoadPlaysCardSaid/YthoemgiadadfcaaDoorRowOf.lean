/- A block of whole numbers as the walks of this seat speak of it; []byte(s) and string(b); regions that draw their order and whose callees make memory. -/
import Derived.Test.YthoemgiadadfcaaDoorCom
import Derived.Lib.ConvBytes
import Derived.Laws.BytesArg
import Derived.Lib.QuietBelow
namespace Go.Proofs.YthoemgiadadfcaaDoor
open Go.RowKit Go.Sort

/-- Block b begins with the numbers xs, each of its cells may be written. -/
def Row (w : World) (b : Nat) (k : IntKind) (xs : List Int) : Prop :=
  b < w.heap.size ∧ ∀ j, j < xs.length → w.cell? ⟨b, j, none⟩ = some (.int k (xs.getD j 0)) ∧ w.frozen? ⟨b, j, none⟩ = false
theorem Row.lt {w : World} {b : Nat} {k : IntKind} {xs : List Int} (h : Row w b k xs) : b < w.heap.size := h.1
theorem Row.at_ {w : World} {b : Nat} {k : IntKind} {xs : List Int} (h : Row w b k xs) (j : Nat) (hj : j < xs.length) : w.cell? ⟨b, j, none⟩ = some (.int k (xs.getD j 0)) := (h.2 j hj).1
theorem Row.free {w : World} {b : Nat} {k : IntKind} {xs : List Int} (h : Row w b k xs) (j : Nat) (hj : j < xs.length) : w.frozen? ⟨b, j, none⟩ = false := (h.2 j hj).2
theorem Row.of_block {w w' : World} {b : Nat} {k : IntKind} {xs : List Int} (h : Row w b k xs) (hb : w'.heap[b]? = w.heap[b]?) (hlt : b < w'.heap.size) : Row w' b k xs :=
  ⟨hlt, fun j hj => ⟨(World.cell?_of_block (w := w) (w' := w') (a := ⟨b, j, none⟩) hb).trans (h.at_ j hj), (World.frozen?_of_block (w := w) (w' := w') (a := ⟨b, j, none⟩) hb).trans (h.free j hj)⟩⟩
theorem Row.gb {w w' : World} {b c : Nat} {k : IntKind} {xs : List Int} (h : Row w b k xs) (hg : w.grownBy w' (some c)) (hne : b ≠ c) : Row w' b k xs :=
  h.of_block (hg.block b h.lt (by simpa using hne)) (Nat.lt_of_lt_of_le h.lt hg.size)
theorem Row.below {w w' : World} {b : Nat} {k : IntKind} {xs : List Int} (h : Row w b k xs) (hg : Below w.heap.size w w') : Row w' b k xs :=
  h.of_block (hg.block b h.lt) (Nat.lt_of_lt_of_le h.lt hg.size)
theorem Row.drew {w : World} {b : Nat} {k : IntKind} {xs : List Int} (h : Row w b k xs) : Row w.drew b k xs := h.of_block rfl h.lt
theorem Row.other {w : World} {b : Nat} {k : IntKind} {xs : List Int} (h : Row w b k xs) (a : Addr) (v : Value) (hne : b ≠ a.block) : Row (w.setCell a v) b k xs := h.gb (gb_setCell w a v) hne
theorem Row.set {w : World} {b : Nat} {k : IntKind} {xs : List Int} (h : Row w b k xs) (i : Nat) (x : Int) (hi : i < xs.length) : Row (w.setCell ⟨b, i, none⟩ (.int k x)) b k (xs.set i x) := by
  refine ⟨by simpa using h.lt, fun j hj => ⟨?_, by rw [World.frozen?_setCell]; exact h.free j (by simpa using hj)⟩⟩
  rw [List.length_set] at hj
  by_cases e : i = j
  · subst e
    rw [World.cell?_setCell_same' _ _ _ (by rw [h.at_ i hi]; rfl)]
    simp [hi]
  · rw [World.cell?_setCell_other _ _ _ _ (by simp), h.at_ j hj]
    simp [e]

theorem frozen_bytesWorld (W : World) (e : TypeId) (s : ByteArray) (j : Nat) (hj : j < s.size) : (Lib.bytesWorld W e s).frozen? ⟨W.heap.size, j, none⟩ = false := by
  have hc : s.size ≤ (Lib.bytesCells W e s).size := by
    unfold Lib.bytesCells
    rw [Array.size_append, Array.size_map]
    have : s.data.size = s.size := rfl
    omega
  unfold World.frozen?
  rw [Lib.bytesWorld_at_new]
  have h : ¬ ((Lib.bytesCells W e s).size ≤ j) := by omega
  simp [h]
/-- A text's bytes, as the cells have them. -/
def ints (s : ByteArray) : List Int := (bs s).map Nat.cast
theorem ints_length (s : ByteArray) : (ints s).length = s.size := by rw [ints, List.length_map, bs_length]
theorem row_bytesWorld (W : World) (e : TypeId) (s : ByteArray) : Row (Lib.bytesWorld W e s) W.heap.size .u8 (ints s) := by
  refine ⟨by rw [Lib.bytesWorld_size]; omega, fun j hj => ?_⟩
  rw [ints_length] at hj
  refine ⟨?_, frozen_bytesWorld W e s j hj⟩
  rw [Lib.bytesWorld_cell W e s j hj]
  have h' : j < s.data.toList.length := by rw [Array.length_toList]; exact hj
  simp [ints, bs, List.getD_eq_getElem?_getD, List.getElem?_eq_getElem h']
theorem below_bytesWorld {B : Nat} {w W : World} (h : Below B w W) (hB : B ≤ W.heap.size) (e : TypeId) (s : ByteArray) : Below B w (Lib.bytesWorld W e s) :=
  h.trans ⟨rfl, rfl, rfl, by rw [Lib.bytesWorld_size]; omega, fun i hi => Lib.bytesWorld_at_old W e s i (by omega)⟩
theorem bs_strOfNums (xs : List Nat) (h : ∀ x ∈ xs, x < 256) : bs (strOfNums (xs.map Nat.cast)) = xs := by
  unfold bs
  rw [strOfNums_data, List.map_map, List.map_map]
  conv => rhs; rw [← List.map_id xs]
  apply List.map_congr_left
  intro x hx
  have := h x hx
  simp
  omega
/-- string(b) of a whole row, in every world behind. -/
theorem string_row {P : Program} {w : World} {b n cap : Nat} {xs : List Int} (h : Row w b .u8 xs) (hn : xs.length = n) (src e dst : TypeId) (hs : P.underlying src = some (.slice e)) (he : P.underlying e = some (.int .u8)) (hd : P.underlying dst = some .string) :
    (convert src dst (.slice (some ⟨b, 0, none⟩) n cap)).run P w = .ok (.string (strOfNums xs)) w :=
  run_convert_bytes_arg w src e hs he b 0 n cap xs hn (fun i hi => by rw [Nat.zero_add]; exact h.at_ i (by omega)) dst hd
theorem row_regrown {w : World} {b : Nat} {k : IntKind} {xs : List Int} (h : Row w b k xs) (d : Nat) (os : Array Obj) : Row (grow (redrawn w d) os) b k xs := h.below (below_regrown w d os)
end Go.Proofs.YthoemgiadadfcaaDoor
