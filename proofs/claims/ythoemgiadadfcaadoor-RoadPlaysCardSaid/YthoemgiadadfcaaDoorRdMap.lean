/- What acts do, as a map that a call makes: its walk, and what is found in it. -/
import Derived.Test.YthoemgiadadfcaaDoorFoot
import Derived.Test.YthoemgiadadfcaaDoorQuietTail
import Derived.Test.YthoemgiadadfcaaDoorProg
import Derived.RangeFuncOwn
import Derived.RangeFuncBound
import Derived.WideMake
import Derived.Carry
set_option linter.unusedVariables false
set_option linter.unusedSimpArgs false
namespace Go.Proofs.YthoemgiadadfcaaDoor
open Go.RowKit Go.Sort
namespace Rd
def sDrop : ByteArray := { data := #[100, 114, 111, 112] }
def sTwice : ByteArray := { data := #[116, 119, 105, 99, 101] }
def sSwap : ByteArray := { data := #[115, 119, 97, 112] }
def sSpoil : ByteArray := { data := #[115, 112, 111, 105, 108] }
def sTrim : ByteArray := { data := #[116, 114, 105, 109] }
/-- Which act a word names; 5: none. -/
def kd (s : ByteArray) : Nat := if s = sDrop then 0 else if s = sTwice then 1 else if s = sSwap then 2 else if s = sSpoil then 3 else if s = sTrim then 4 else 5
def nums : Nat → Nat
  | 0 => 1
  | 1 => 1
  | 2 => 2
  | 3 => 3
  | 4 => 2
  | _ => 0
def dv (k : Nat) : Value := if k < 5 then .agg #[.int .i64 (nums k), .func (.func (30 + k)) #[] #[]] else .agg #[.int .i64 0, .nilFunc]
def ES : Array MapEntry := #[⟨.string sDrop, .agg #[.int .i64 1, .func (.func 30) #[] #[]], 0⟩, ⟨.string sTwice, .agg #[.int .i64 1, .func (.func 31) #[] #[]], 1⟩, ⟨.string sSwap, .agg #[.int .i64 2, .func (.func 32) #[] #[]], 2⟩,
  ⟨.string sSpoil, .agg #[.int .i64 3, .func (.func 33) #[] #[]], 3⟩, ⟨.string sTrim, .agg #[.int .i64 2, .func (.func 34) #[] #[]], 4⟩]
end Rd
open Rd
theorem run_insert {w : World} (r clock : Nat) (es : Array MapEntry) (s : ByteArray) (val : Value) (hb : w.heap[r]? = some (.map es clock)) (hf : Instr.findNow .string (.string s) es.toList 0 = some none) :
    (Instr.mapUpdate 73 (.map (some r)) (.string s) val).run Tryd.prog w = .ok () (w.putObj r (.map (es.push ⟨.string s, val, clock⟩) (clock + 1))) := by
  have hc : (Instr.checkKey false 10000 9 (.string s)).run Tryd.prog w = .ok () w := MapKept.run_checkKey (k := .string s) Tryd.underlying9 (by simp [MapKept.IsKey]) false 9999
  simp [Instr.mapUpdate, run_underlying Tryd.underlying73, MapKept.run_getObj_map hb, hc, MapKept.run_findKey Tryd.underlying9 hf, MapKept.run_setObj_map _ hb, Result.andThen, World.putObj]
theorem find_is (s : ByteArray) : Instr.findNow .string (.string s) ES.toList 0 = some (if kd s < 5 then some (kd s, dv (kd s)) else none) := by
  unfold kd
  by_cases h0 : s = sDrop
  · subst h0; rfl
  by_cases h1 : s = sTwice
  · subst h1; rfl
  by_cases h2 : s = sSwap
  · subst h2; rfl
  by_cases h3 : s = sSpoil
  · subst h3; rfl
  by_cases h4 : s = sTrim
  · subst h4; rfl
  rw [if_neg h0, if_neg h1, if_neg h2, if_neg h3, if_neg h4]
  have e : ∀ t, s ≠ t → (s == t) = false := fun t h => by
    have e1 : (s == t) = (s.data == t.data) := rfl
    rw [e1]
    have : s.data ≠ t.data := fun h2 => h (by cases s; cases t; exact congrArg _ h2)
    simpa using this
  simp [ES, Instr.findNow, Instr.sameNow, e _ h0, e _ h1, e _ h2, e _ h3, e _ h4]
theorem zero_val {t : TypeId} {v : Value} (h : (Tryd.prog.info? t).map (·.zero) = some (some v)) (w : World) : (zeroValue t).run Tryd.prog w = .ok v w := by
  obtain ⟨i, hi, hz⟩ := Option.map_eq_some_iff.1 h
  simp [zeroValue, typeInfo, hi, hz]
theorem zero72 (w : World) : (zeroValue 72).run Tryd.prog w = .ok (.agg #[.int .i64 0, .nilFunc]) w := zero_val (by kernel_rfl) w
theorem look_is (s : ByteArray) (r : Nat) (w : World) (c : Bool) (hb : w.heap[r]? = some (.map ES 5)) :
    (Instr.lookup 73 (.map (some r)) (.string s) c).run Tryd.prog w = .ok (if c = true then .tuple #[dv (kd s), .bool (decide (kd s < 5))] else dv (kd s)) w := by
  have hc : ∀ e, (Instr.checkKey e 10000 9 (.string s)).run Tryd.prog w = .ok () w := fun e => MapKept.run_checkKey (k := .string s) Tryd.underlying9 (by simp [MapKept.IsKey]) e 9999
  have hf := find_is s
  by_cases hk : kd s < 5
  · rw [if_pos hk] at hf
    simp [Instr.lookup, run_underlying Tryd.underlying73, MapKept.run_getObj_map hb, hc, MapKept.run_findKey Tryd.underlying9 hf, Result.andThen, hk]
  · rw [if_neg hk] at hf
    simp [Instr.lookup, run_underlying Tryd.underlying73, MapKept.run_getObj_map hb, hc, MapKept.run_findKey Tryd.underlying9 hf, Result.andThen, hk, zero72, dv]
set_option maxRecDepth 100000 in
set_option maxHeartbeats 1600000 in
theorem deeds_is (w : World) : Calls Tryd.prog 22 #[] w fun e w' => ∃ r, e = .returned (.map (some r)) ∧ w.heap.size ≤ r ∧ w'.heap[r]? = some (.map ES 5) ∧ Below w.heap.size w w' := by
  have hmm := @run_makeMap_plain Tryd.prog
  have b0 : (w.alloc (.map #[] 0)).heap[w.heap.size]? = some (.map #[] 0) := heap_alloc_new w _
  obtain ⟨W0, hW0⟩ : ∃ W0, W0 = w.alloc (.map #[] 0) := ⟨_, rfl⟩
  rw [← hW0] at b0
  have hl : ∀ (W : World) o, W.heap[w.heap.size]? = some o → ∀ o', (W.putObj w.heap.size o').heap[w.heap.size]? = some o' := fun W o h o' => World.putObj_heap_same (Array.getElem?_eq_some_iff.1 h).1
  have i1 := run_insert w.heap.size 0 #[] sDrop (.agg #[.int .i64 1, .func (.func 30) #[] #[]]) b0 rfl
  have b1 := hl _ _ b0 (.map (#[].push ⟨.string sDrop, .agg #[.int .i64 1, .func (.func 30) #[] #[]], 0⟩) (0 + 1))
  have i2 := run_insert w.heap.size _ _ sTwice (.agg #[.int .i64 1, .func (.func 31) #[] #[]]) b1 rfl
  have b2 := hl _ _ b1 (.map ((#[].push ⟨.string sDrop, .agg #[.int .i64 1, .func (.func 30) #[] #[]], 0⟩).push ⟨.string sTwice, .agg #[.int .i64 1, .func (.func 31) #[] #[]], 0 + 1⟩) (0 + 1 + 1))
  have i3 := run_insert w.heap.size _ _ sSwap (.agg #[.int .i64 2, .func (.func 32) #[] #[]]) b2 rfl
  have b3 := hl _ _ b2 (.map (((#[].push ⟨.string sDrop, .agg #[.int .i64 1, .func (.func 30) #[] #[]], 0⟩).push ⟨.string sTwice, .agg #[.int .i64 1, .func (.func 31) #[] #[]], 0 + 1⟩).push ⟨.string sSwap, .agg #[.int .i64 2, .func (.func 32) #[] #[]], 0 + 1 + 1⟩) (0 + 1 + 1 + 1))
  have i4 := run_insert w.heap.size _ _ sSpoil (.agg #[.int .i64 3, .func (.func 33) #[] #[]]) b3 rfl
  have b4 := hl _ _ b3 (.map ((((#[].push ⟨.string sDrop, .agg #[.int .i64 1, .func (.func 30) #[] #[]], 0⟩).push ⟨.string sTwice, .agg #[.int .i64 1, .func (.func 31) #[] #[]], 0 + 1⟩).push ⟨.string sSwap, .agg #[.int .i64 2, .func (.func 32) #[] #[]], 0 + 1 + 1⟩).push ⟨.string sSpoil, .agg #[.int .i64 3, .func (.func 33) #[] #[]], 0 + 1 + 1 + 1⟩) (0 + 1 + 1 + 1 + 1))
  have i5 := run_insert w.heap.size _ _ sTrim (.agg #[.int .i64 2, .func (.func 34) #[] #[]]) b4 rfl
  have b5 := hl _ _ b4 (.map ES 5)
  have hB : ∀ (W : World) o, Below w.heap.size w W → Below w.heap.size w (W.putObj w.heap.size o) := fun W o h => h.grown (grownBy_putObj' W w.heap.size o) h.size (fun k e => by cases e; exact Nat.le_refl _)
  have B0 : Below w.heap.size w W0 := by rw [hW0]; exact (Below.refl _ _).alloc (Nat.le_refl _) _
  have B5 := hB _ (.map ES 5) (hB _ (.map ((((#[].push ⟨.string sDrop, .agg #[.int .i64 1, .func (.func 30) #[] #[]], 0⟩).push ⟨.string sTwice, .agg #[.int .i64 1, .func (.func 31) #[] #[]], 0 + 1⟩).push ⟨.string sSwap, .agg #[.int .i64 2, .func (.func 32) #[] #[]], 0 + 1 + 1⟩).push ⟨.string sSpoil, .agg #[.int .i64 3, .func (.func 33) #[] #[]], 0 + 1 + 1 + 1⟩) (0 + 1 + 1 + 1 + 1)) (hB _ (.map (((#[].push ⟨.string sDrop, .agg #[.int .i64 1, .func (.func 30) #[] #[]], 0⟩).push ⟨.string sTwice, .agg #[.int .i64 1, .func (.func 31) #[] #[]], 0 + 1⟩).push ⟨.string sSwap, .agg #[.int .i64 2, .func (.func 32) #[] #[]], 0 + 1 + 1⟩) (0 + 1 + 1 + 1)) (hB _ (.map ((#[].push ⟨.string sDrop, .agg #[.int .i64 1, .func (.func 30) #[] #[]], 0⟩).push ⟨.string sTwice, .agg #[.int .i64 1, .func (.func 31) #[] #[]], 0 + 1⟩) (0 + 1 + 1)) (hB _ (.map (#[].push ⟨.string sDrop, .agg #[.int .i64 1, .func (.func 30) #[] #[]], 0⟩) (0 + 1)) B0))))
  have H5 := Lib.hid b5
  have HB5 := Lib.hid B5
  have e5 : (((((#[].push ⟨.string sDrop, .agg #[.int .i64 1, .func (.func 30) #[] #[]], 0⟩).push ⟨.string sTwice, .agg #[.int .i64 1, .func (.func 31) #[] #[]], 0 + 1⟩).push ⟨.string sSwap, .agg #[.int .i64 2, .func (.func 32) #[] #[]], 0 + 1 + 1⟩).push ⟨.string sSpoil, .agg #[.int .i64 3, .func (.func 33) #[] #[]], 0 + 1 + 1 + 1⟩).push ⟨.string sTrim, .agg #[.int .i64 2, .func (.func 34) #[] #[]], 0 + 1 + 1 + 1 + 1⟩ : Array MapEntry) = ES := rfl
  rw [e5] at i5
  generalize (World.putObj W0 w.heap.size (.map (#[].push ⟨.string sDrop, .agg #[.int .i64 1, .func (.func 30) #[] #[]], 0⟩) (0 + 1))) = W1 at *
  generalize (World.putObj W1 w.heap.size _) = W2 at i2 i3 i4 i5 H5 HB5
  generalize (World.putObj W2 w.heap.size _) = W3 at i3 i4 i5 H5 HB5
  generalize (World.putObj W3 w.heap.size _) = W4 at i4 i5 H5 HB5
  generalize (World.putObj W4 w.heap.size _) = W5 at i5 H5 HB5
  clear b0 b1 b2 b3 b4 b5 hl hB B0 B5 e5
  unfold sDrop at i1
  unfold sTwice at i2
  unfold sSwap at i3
  unfold sSpoil at i4
  unfold sTrim at i5
  rw [hW0] at i1
  clear hW0
  go_enter Tryd.func22, Tryd.ntmps22
  go_wp2
  go_ret
  exact ⟨_, rfl, Nat.le_refl _, H5.out, HB5.out⟩
end Go.Proofs.YthoemgiadadfcaaDoor
