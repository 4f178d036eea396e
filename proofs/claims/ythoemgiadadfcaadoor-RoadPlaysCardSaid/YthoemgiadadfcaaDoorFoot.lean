/- What a call may turn: a list of blocks; rows of numbers that a call owns, read, written, appended to. -/
import Derived.Test.YthoemgiadadfcaaDoorRowOf
import Derived.Maps.AppendAt
import Derived.Deep.AppendLies
namespace Go.Proofs.YthoemgiadadfcaaDoor
open Go.RowKit Go.Sort

/-- New blocks, and writes to the blocks F alone. -/
structure Keep (w w' : World) (F : List Nat) : Prop where
  os : w'.os = w.os
  tape : w'.tape = w.tape
  output : w'.output = w.output
  size : w.heap.size ≤ w'.heap.size
  block : ∀ j, j < w.heap.size → j ∉ F → w'.heap[j]? = w.heap[j]?
theorem Keep.refl (w : World) (F : List Nat) : Keep w w F := ⟨rfl, rfl, rfl, Nat.le_refl _, fun _ _ _ => rfl⟩
theorem Keep.trans {w w1 w2 : World} {F : List Nat} (h : Keep w w1 F) (h' : Keep w1 w2 F) : Keep w w2 F :=
  ⟨h'.os.trans h.os, h'.tape.trans h.tape, h'.output.trans h.output, Nat.le_trans h.size h'.size,
    fun j hj hn => (h'.block j (Nat.lt_of_lt_of_le hj h.size) hn).trans (h.block j hj hn)⟩
theorem Keep.mono {w w1 : World} {F G : List Nat} (h : Keep w w1 F) (hs : ∀ j ∈ F, j ∈ G ∨ w.heap.size ≤ j) : Keep w w1 G :=
  ⟨h.os, h.tape, h.output, h.size, fun j hj hn => h.block j hj (fun hf => by rcases hs j hf with h1 | h1; exact hn h1; omega)⟩
/-- Behind a step that may turn what the first one has made. -/
theorem Keep.then {w w1 w2 : World} {F G : List Nat} (h : Keep w w1 F) (h' : Keep w1 w2 G) (hs : ∀ j ∈ G, j ∈ F ∨ w.heap.size ≤ j) : Keep w w2 F :=
  ⟨h'.os.trans h.os, h'.tape.trans h.tape, h'.output.trans h.output, Nat.le_trans h.size h'.size,
    fun j hj hn => (h'.block j (Nat.lt_of_lt_of_le hj h.size) (fun hf => by rcases hs j hf with h1 | h1; exact hn h1; omega)).trans (h.block j hj hn)⟩
theorem Keep.of_below {w w1 : World} (h : Below w.heap.size w w1) (F : List Nat) : Keep w w1 F := ⟨h.os, h.tape, h.output, h.size, fun j hj _ => h.block j hj⟩
theorem Keep.of_gb {w w1 : World} {row : Option Nat} (h : w.grownBy w1 row) : Keep w w1 row.toList :=
  ⟨h.os, h.tape, h.output, h.size, fun j hj hn => h.block j hj (fun e => hn (by rw [← e]; simp))⟩
theorem Keep.setCell (w : World) (a : Addr) (v : Value) (F : List Nat) (h : a.block ∈ F) : Keep w (w.setCell a v) F :=
  ⟨rfl, rfl, rfl, by simp, fun j _ hn => Below.heap_setCell _ _ _ _ (fun e => hn (e ▸ h))⟩
theorem Keep.alloc (w : World) (o : Obj) (F : List Nat) : Keep w (w.alloc o) F := Keep.of_below ((Below.refl _ _).alloc (Nat.le_refl _) o) F
theorem Keep.drew (w : World) (F : List Nat) : Keep w w.drew F := ⟨rfl, rfl, rfl, Nat.le_refl _, fun _ _ _ => rfl⟩
theorem Keep.below {w0 w w1 : World} {F : List Nat} (h : Keep w w1 F) (hb : Below w0.heap.size w0 w) (hF : ∀ j ∈ F, w0.heap.size ≤ j) : Below w0.heap.size w0 w1 :=
  hb.trans ⟨h.os, h.tape, h.output, h.size, fun j hj => h.block j (Nat.lt_of_lt_of_le hj hb.size) (fun hf => by have := hF j hf; omega)⟩

/-- The value v is a row of numbers that nobody else has. -/
def Own (w : World) (e : TypeId) (k : IntKind) (v : Value) (xs : List Int) : Prop := w.ownsRow 0 e 1 v xs.length (xs.map (Value.int k))
/-- Its block, if there is one. -/
def foot (v : Value) : List Nat := v.ownBlock.toList
theorem foot_slice (g n cap : Nat) : foot (.slice (some ⟨g, 0, none⟩) n cap) = [g] := rfl
theorem foot_nil : foot (.slice none 0 0) = [] := rfl
theorem Own.nil (w : World) (e : TypeId) (k : IntKind) : Own w e k (.slice none 0 0) [] := World.ownsRow_nil w 0 e 1
theorem Own.lt {w : World} {e : TypeId} {k : IntKind} {v : Value} {xs : List Int} (h : Own w e k v xs) : ∀ j ∈ foot v, j < w.heap.size := by
  intro j hj
  have : v.ownBlock = some j := by
    unfold foot at hj
    cases hv : v.ownBlock <;> simp_all
  exact (World.ownsRow.lt h j this).2
theorem Own.keep {w w' : World} {e : TypeId} {k : IntKind} {v : Value} {xs : List Int} {F : List Nat} (h : Own w e k v xs) (hk : Keep w w' F) (hd : ∀ j ∈ foot v, j ∉ F) : Own w' e k v xs := by
  refine ⟨h.1, ?_⟩
  rcases h.2 with hn | ⟨g, cap, cur, rfl, hb, hgg, rest⟩
  · exact .inl hn
  · exact .inr ⟨g, cap, cur, rfl, hb, by rw [hk.block g (Array.getElem?_eq_some_iff.1 hgg).1 (hd g (by simp [foot, Value.ownBlock]))]; exact hgg, rest⟩
theorem Own.below {w w' : World} {e : TypeId} {k : IntKind} {v : Value} {xs : List Int} (h : Own w e k v xs) (hb : Below w.heap.size w w') : Own w' e k v xs :=
  h.keep (Keep.of_below hb []) (by simp)
/-- What such a value looks like. -/
theorem Own.form {w : World} {e : TypeId} {k : IntKind} {v : Value} {xs : List Int} (h : Own w e k v xs) (hn : 0 < xs.length) : ∃ g cap, v = .slice (some ⟨g, 0, none⟩) xs.length cap := by
  obtain ⟨g, cap, hv, _, _⟩ := World.ownsRow.form h hn
  exact ⟨g, cap, hv⟩
theorem Own.shape {w : World} {e : TypeId} {k : IntKind} {v : Value} {xs : List Int} (h : Own w e k v xs) : ∃ a cap, v = .slice a xs.length cap := by
  rcases h.2 with ⟨h1, h2⟩ | ⟨g, cap, cur, hv, _⟩
  · exact ⟨none, 0, by rw [h1, h2]⟩
  · exact ⟨_, cap, hv⟩
theorem Own.at_ {w : World} {e : TypeId} {k : IntKind} {g cap : Nat} {xs : List Int} (h : Own w e k (.slice (some ⟨g, 0, none⟩) xs.length cap) xs) (j : Nat) (hj : j < xs.length) :
    w.cell? ⟨g, j, none⟩ = some (.int k (xs.getD j 0)) := by
  rw [World.ownsRow.cellAt h j (by omega), List.getElem?_map, List.getElem?_eq_getElem hj]
  simp [List.getD_eq_getElem?_getD, List.getElem?_eq_getElem hj]
theorem Own.free {w : World} {e : TypeId} {k : IntKind} {g n cap : Nat} {xs : List Int} (h : Own w e k (.slice (some ⟨g, 0, none⟩) n cap) xs) (j : Nat) : w.frozen? ⟨g, j, none⟩ = false := by
  rcases h.2 with ⟨h', _⟩ | ⟨g', cap', cur, h', _, hh, _⟩
  · cases h'
  · have : g = g' := by injection h' with h'; injection h' with h'; injection h' with h'
    subst this
    simp [World.frozen?, hh]
theorem Own.set {w : World} {e : TypeId} {k : IntKind} {g cap : Nat} {xs : List Int} (h : Own w e k (.slice (some ⟨g, 0, none⟩) xs.length cap) xs) (j : Nat) (x : Int) :
    Own (w.setCell ⟨g, j, none⟩ (.int k x)) e k (.slice (some ⟨g, 0, none⟩) (xs.set j x).length cap) (xs.set j x) := by
  have hs := (World.ownsRow.stored h j (.int k x)).1
  unfold Own
  rw [List.length_set]
  simpa [List.map_set] using hs
theorem Own.bound {w : World} {e : TypeId} {k : IntKind} {v : Value} {xs : List Int} (h : Own w e k v xs) : xs.length ≤ 9223372036854775807 := by
  rcases h.2 with ⟨_, h1⟩ | ⟨g', cap', cur, he, _, _, h1, h2, _⟩
  · omega
  · simp only [maxLen] at h2; omega
/-- What is owned is no block of another kind of cells. -/
theorem Own.ne {w : World} {e e' : TypeId} {k : IntKind} {v : Value} {xs : List Int} (h : Own w e k v xs) {b : Nat} {cs : Array Value} {fr : Nat × Nat} (hb : w.heap[b]? = some (.cells cs e' fr)) (hne : e ≠ e') : b ∉ foot v := by
  intro hf
  rcases h.2 with ⟨h1, _⟩ | ⟨g, cap, cur, rfl, _, hh, _⟩
  · rw [h1] at hf; simp [foot, Value.ownBlock] at hf
  · simp [foot, Value.ownBlock] at hf
    subst hf
    rw [hh] at hb
    injection hb with hb
    injection hb with _ ht
    exact hne ht
/-- string(b) of bytes that are owned. -/
theorem own_string {P : Program} {w : World} {src dst e : TypeId} {v : Value} {xs : List Int} (h : Own w e .u8 v xs) (hs : P.underlying src = some (.slice e)) (he : P.underlying e = some (.int .u8)) (hd : P.underlying dst = some .string) :
    (convert src dst v).run P w = .ok (.string (strOfNums xs)) w := by
  rcases h.2 with ⟨rfl, hn⟩ | ⟨g, cap, cur, rfl, _⟩
  · obtain rfl : xs = [] := List.eq_nil_of_length_eq_zero hn
    exact run_convert_bytes_nil w src e hs he 0 0 dst hd
  · refine run_convert_bytes_arg w src e hs he g 0 xs.length cap xs rfl (fun i hi => ?_) dst hd
    rw [Nat.zero_add]
    exact h.at_ i hi

section
variable {P : Program} {ops : Array Oper} {rest : List Oper} {o : Oper} {a : Act} {Q : Exit → Act → World → Prop}
/-- append(v, y): behind the box of y. -/
theorem append_one {W : World} (hgd : o.guard = none) (s x : Operand) (t e : TypeId) (k : IntKind) (bytes : Nat)
    (ho : o.op = .call { callee := .builtin .append, args := #[s, x], argTypes := #[t, t] })
    (ht : P.underlying t = some (.slice e)) (hinfo : (P.info? e).map (fun i => (i.zero, i.size, i.bytes)) = some (some (.int k 0), 1, bytes)) (hb0 : 0 < bytes)
    (v : Value) (xs : List Int) (y : Int) (hs : a.eval s = v) (hx : a.eval x = .slice (some ⟨W.heap.size, 0, none⟩) 1 1)
    (HO : Own W e k v xs) (hl : (xs.length + 1) * bytes ≤ 140737488355328)
    (h : ∀ g cap w1, Own w1 e k (.slice (some ⟨g, 0, none⟩) (xs ++ [y]).length cap) (xs ++ [y]) → Keep W w1 (foot v) → (g ∈ foot v ∨ W.heap.size ≤ g) → wpList P ops Q rest (a.put o.dst (.slice (some ⟨g, 0, none⟩) (xs ++ [y]).length cap)) w1) :
    wpList P ops Q (o :: rest) a (W.alloc (.cells #[.int k y] e)) := by
  obtain ⟨i0, hi, hzz⟩ := Option.map_eq_some_iff.1 hinfo
  simp only [Prod.mk.injEq] at hzz
  obtain ⟨hz0, hz1, hz2⟩ := hzz
  have hlen : xs.length + 1 ≤ 140737488355328 := Nat.le_trans (Nat.le_mul_of_pos_right _ hb0) hl
  refine wpList_append_own_at (W.alloc (.cells #[.int k y] e)) hgd s x t ho 0 e i0 (.int k 0) 1 bytes ht hi hz0 hz1 hz2 rfl (by omega) v xs.length (xs.map (Value.int k)) hs (World.ownsRow.alloc HO _) ⟨W.heap.size, 0, none⟩ 1 1 [.int k y] hx rfl
    (World.news_of_block (cs := #[.int k y]) (t := e) (fr := (0, 0)) (heap_alloc_new W _)) (by simp; rfl) (by simp only [maxLen]; omega) hl (by simp) ?_
  intro v1 w1 hown hg _ hat
  have hown' : Own w1 e k v1 (xs ++ [y]) := by unfold Own; simpa using hown
  obtain ⟨g, cap, rfl⟩ := hown'.form (by simp)
  refine h g cap w1 hown' ((Keep.alloc W _ _).trans (Keep.of_gb hg)) ?_
  rcases hat with hat | hat
  · left; unfold foot; rw [← hat]; simp [Value.ownBlock]
  · right
    simp [Value.ownBlock] at hat
    omega
end
end Go.Proofs.YthoemgiadadfcaaDoor
