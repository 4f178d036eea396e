/- The program does what the document's first example asks. -/
import Derived.Test.YthoemgiadadfcaaDoorRdParse
import Derived.Test.YthoemgiadadfcaaDoorRdDo
set_option linter.unusedVariables false
set_option linter.unusedSimpArgs false
namespace Go.Proofs.YthoemgiadadfcaaDoor
open Go.RowKit Go.Sort Rd
attribute [local go_sem] Oper.semAt_some
def xA : List ByteArray := [⟨#[120]⟩]
def dropA : Ac := ⟨⟨#[100, 114, 111, 112]⟩, 0, 0, 0⟩
def swapT : ByteArray := ⟨#[115, 119, 97, 112, 32, 49, 32, 50, 10]⟩
theorem run_xA : (runL xA [dropA]).map (·.1) = [] := by decide +kernel
theorem wrs_xA : wrs [dropA] = 0 := by decide +kernel
instance : DecidableEq Ac := fun x y => if h : x.w = y.w ∧ x.a = y.a ∧ x.b = y.b ∧ x.c = y.c then isTrue (by cases x; cases y; simp_all) else isFalse (fun e => h (by subst e; simp))
theorem parse_swap : parseP swapT.data.toList = ([⟨⟨#[115, 119, 97, 112]⟩, 1, 2, 0⟩], 0, 0) := by decide +kernel
theorem rr_block {α : Type} {W : World} {k : Nat} {enc : α → List Value} (hk : ∀ x, (enc x).length = k) (g : Nat) (cs : Array Value) (t : TypeId) (fr : Nat × Nat) (xs : List α) (cap : Nat) (hb : W.heap[g]? = some (.cells cs t fr)) (hc : cs.toList = xs.flatMap enc) :
    Rr W k enc (.slice (some ⟨g, 0, none⟩) xs.length cap) xs := by
  refine ⟨_, cap, rfl, .inr ⟨g, 0, rfl, (Array.getElem?_eq_some_iff.1 hb).1, fun i x hx j u hj => ?_⟩⟩
  have hjk : j < k := by rw [← hk x]; exact (List.getElem?_eq_some_iff.1 hj).1
  have h1 := flat_get hk xs i x hx j hjk
  rw [hj, ← hc] at h1
  rw [Nat.zero_add]
  exact cell_of_row _ _ _ _ _ _ (hb.trans (by rw [show cs = cs from rfl])) |>.trans (by simpa using h1)
theorem dk_awake (w : World) : Calls Tryd.prog 11 #[.slice (some ⟨w.heap.size, 0, none⟩) 1 1, .slice (some ⟨w.heap.size + 1, 0, none⟩) 1 1]
    ((w.alloc (.cells #[.string ⟨#[120]⟩] 9)).alloc (.cells #[.string ⟨#[100, 114, 111, 112]⟩, .int .i64 0, .int .i64 0, .int .i64 0] 50))
    fun e w' => ∃ (a : Option Addr) (cap : Nat), e = .returned (.tuple #[.slice a 0 cap, .int .i64 0]) ∧ Below w.heap.size w w' := by
  have hA : Below w.heap.size w ((w.alloc (.cells #[.string ⟨#[120]⟩] 9)).alloc (.cells #[.string ⟨#[100, 114, 111, 112]⟩, .int .i64 0, .int .i64 0, .int .i64 0] 50)) := ((Below.refl _ _).alloc (Nat.le_refl _) _).alloc (by simp) _
  have hb0 : ((w.alloc (.cells #[.string ⟨#[120]⟩] 9)).alloc (.cells #[.string ⟨#[100, 114, 111, 112]⟩, .int .i64 0, .int .i64 0, .int .i64 0] 50)).heap[w.heap.size]? = some (.cells #[.string ⟨#[120]⟩] 9 (0, 0)) :=
    (Below.heap_alloc _ _ _ (by simp)).trans (heap_alloc_new w _)
  have hb1 : ((w.alloc (.cells #[.string ⟨#[120]⟩] 9)).alloc (.cells #[.string ⟨#[100, 114, 111, 112]⟩, .int .i64 0, .int .i64 0, .int .i64 0] 50)).heap[w.heap.size + 1]? = some (.cells #[.string ⟨#[100, 114, 111, 112]⟩, .int .i64 0, .int .i64 0, .int .i64 0] 50 (0, 0)) := by
    have := heap_alloc_new (w.alloc (.cells #[.string ⟨#[120]⟩] 9)) (.cells #[.string ⟨#[100, 114, 111, 112]⟩, .int .i64 0, .int .i64 0, .int .i64 0] 50)
    simpa using this
  refine (do_ok _ _ xA [dropA] _ (rr_block st_length _ _ 9 _ xA 1 hb0 rfl) (rr_block ac_length _ _ 50 _ [dropA] 1 hb1 rfl) (by decide) (by decide) (by decide) wrs_xA).mono ?_
  rintro e w' ⟨r, rfl, hr, hb⟩
  rw [run_xA] at hr
  obtain ⟨a, cap, rfl⟩ := hr.shape
  exact ⟨a, cap, rfl, hA.trans (hb.mono hA.size)⟩
theorem ps_awake (w : World) (hm : Mx w) : Calls Tryd.prog 17 #[.string ⟨#[115, 119, 97, 112, 32, 49, 32, 50, 10]⟩] w fun e w' => ∃ (a : Option Addr) (cap : Nat), e = .returned (.tuple #[.slice a 1 cap, .int .i64 0, .int .i64 0]) ∧ Below w.heap.size w w' := by
  refine (parse_is swapT w hm (by decide)).mono ?_
  rintro e w' ⟨v, rfl, hr, hb⟩
  rw [parse_swap] at hr ⊢
  obtain ⟨a, cap, rfl⟩ := hr.shape
  exact ⟨a, cap, rfl, hb⟩
set_option maxRecDepth 100000 in
set_option maxHeartbeats 1600000 in
theorem awake_is (w : World) (hm : Mx w) : Calls Tryd.prog 8 #[] w fun e w' => e = .returned (.bool true) ∧ Below w.heap.size w w' := by
  have HM := Lib.hid hm
  clear hm
  go_enter Tryd.func8, Tryd.ntmps8
  go_wp2_with first
    | (go_at_call 11; (with_reducible refine (dk_awake w).mono ?_); rintro e w1 ⟨a, cap, rfl, hb1⟩; have HB1 := Lib.hid hb1; clear hb1)
    | (go_at_call 17; (with_reducible refine (ps_awake _ (HM.out.below HB1.out)).mono ?_); rintro e w2 ⟨a2, cap2, rfl, hb2⟩; have HB2 := Lib.hid (HB1.out.trans (hb2.mono HB1.out.size)); clear hb2)
  go_ret
  exact ⟨rfl, HB2.out⟩
end Go.Proofs.YthoemgiadadfcaaDoor
