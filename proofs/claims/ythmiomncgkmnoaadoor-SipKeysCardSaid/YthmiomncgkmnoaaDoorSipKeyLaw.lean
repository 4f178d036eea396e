/- The law SipKeys: its walk. -/
import Derived.Test.YthmiomncgkmnoaaDoorSipKeys
set_option linter.unusedVariables false
set_option linter.unusedSimpArgs false
namespace Go.Proofs.YthmiomncgkmnoaaDoor
open Go.RowKit Go.Sort Sip
theorem store_key (w : World) (l : List Nat) (hl : l.length = 16) :
    ((w.alloc (.cells (keyV (keyAt 0)) 23)).setRow w.heap.size (keyV l)).heap[w.heap.size]? = some (.cells (keyV l) 23 (0, 0)) ∧ Below w.heap.size w ((w.alloc (.cells (keyV (keyAt 0)) 23)).setRow w.heap.size (keyV l)) := by
  have h := heap_alloc_new w (.cells (keyV (keyAt 0)) 23)
  refine ⟨setRow_heap _ _ _ _ 23 (0, 0) h, ?_⟩
  refine (Keep.setRow _ _ _ [w.heap.size] (by simp)).below ((Below.refl _ _).alloc (Nat.le_refl _) _) ?_
  intro j hj; rw [List.mem_singleton] at hj; omega
set_option maxRecDepth 100000 in
theorem sipKeys_walk (x y : Int) (w : World) (hx : (Lit.int .u64 x).wf = true) (hy : (Lit.int .u64 y).wf = true) (hg : Signs w) :
    Calls Tryd.prog 8 #[.int .u64 x, .int .u64 y] w fun e w' => e = .returned (.bool true) ∧ Below w.heap.size w w' := by
  have hx0 := wf_u64 hx
  have hy0 := wf_u64 hy
  obtain ⟨a, rfl⟩ : ∃ X : Nat, x = X := ⟨x.toNat, by omega⟩
  obtain ⟨b, rfl⟩ : ∃ X : Nat, y = X := ⟨y.toNat, by omega⟩
  have ha : a < 2 ^ 64 := by have := hx0.2; omega
  have hb : b < 2 ^ 64 := by have := hy0.2; omega
  obtain ⟨kl, hkl⟩ : ∃ kl, kl = keyOf a b 8 := ⟨_, rfl⟩
  have hlen : kl.length = 16 := by rw [hkl]; exact keyOf_length _ _ _
  have hby : Bytes kl := by rw [hkl]; exact keyOf_bytes _ _ _
  have hk := key_is a b w ha hb
  have t1 := keyOf_take a b ha
  have t2 := keyOf_drop a b hb
  rw [← hkl] at hk t1 t2
  obtain ⟨S1, hS1⟩ : ∃ S, S = strOfNums (kl.map Nat.cast) := ⟨_, rfl⟩
  have hsz : S1.size = 16 := by rw [hS1, str_size _ hby, hlen]
  have n1 := fun w => word_is S1 (by omega) 0 (by omega) w
  have n2 := fun w => word_is S1 (by omega) 8 (by omega) w
  rw [show bs S1 = kl by rw [hS1]; exact bs_strOfNums _ hby] at n1 n2
  rw [List.drop_zero, t1, show ((0 : Nat) : Int) = 0 from rfl] at n1
  rw [List.take_of_length_le (by rw [List.length_drop]; omega), t2, show ((8 : Nat) : Int) = 8 from rfl] at n2
  have HL := Lib.hid hlen
  have HS1 := Lib.hid hS1
  have HG := Lib.hid hg
  have hz := zero23
  clear hx hy hx0 hy0 ha hb hkl t1 t2 hby hlen hsz hS1 hg
  have hsz : (Tryd.prog.info? 23).map (·.size) = some (keyV kl).size := by rw [keyV_size, HL.out]; kernel_rfl
  have hold : (keyV (keyAt 0)).size = (keyV kl).size := by rw [keyV_size, keyV_size, HL.out]; rfl
  have hone := keyV_one kl
  have HZ := Lib.hid (And.intro hsz (And.intro hold hone))
  clear hsz hold hone
  go_enter Tryd.func8, Tryd.ntmps8
  go_upto_region 2 with (first | (go_at_call 24; (with_reducible refine hk.mono ?_); rintro e w1 ⟨rfl, hb1⟩; have HB1 := Lib.hid hb1; clear hb1) | (refine wpList_store_row rfl 23 _ _ rfl w1.heap.size (keyV kl) rfl rfl 23 (keyV (keyAt 0)) (heap_alloc_new w1 _) HZ.out.1 HZ.out.2.1 HZ.out.2.2 ?_))
  obtain ⟨hrow, hbel⟩ := store_key w1 kl HL.out
  have hbel2 := HB1.out.trans (hbel.mono HB1.out.size)
  have HB2 := Lib.hid hbel2
  have ha := sipAwake_is _ (HG.out.below hbel2)
  generalize w1.heap.size = B at *
  generalize (w1.alloc (.cells (keyV (keyAt 0)) 23)).setRow B (keyV kl) = W2 at *
  have c1 : (convert 33 9 (.slice (some ⟨B, 0, none⟩) 16 16)).run Tryd.prog W2 = .ok (.string S1) W2 := by
    have := conv_part kl 0 16 16 (by rw [HL.out]; decide) W2 B (fun i hi => (cell_of_row _ _ i _ 23 (0, 0) hrow).trans (keyV_get kl i hi))
    rw [List.drop_zero, List.take_of_length_le (by rw [HL.out]; decide), ← HS1.out] at this
    exact this
  clear hrow hbel hbel2 HB1 hk hz
  go_wp2_with (first | (go_at_call 15; (with_reducible refine ha.mono ?_); rintro e w3 ⟨rfl, hb3⟩; have HB3 := Lib.hid hb3; clear hb3) | (go_at_call 25; (with_reducible refine (n1 _).mono ?_); rintro e w4 ⟨rfl, hw4⟩; have hw4 := hw4.symm; subst hw4) | (go_at_call 25; (with_reducible refine (n2 _).mono ?_); rintro e w5 ⟨rfl, hw5⟩; have hw5 := hw5.symm; subst hw5))
  go_ret
  exact ⟨rfl, HB2.out.trans (HB3.out.mono HB2.out.size)⟩
end Go.Proofs.YthmiomncgkmnoaaDoor
