/- The document's act on a list: ref.Do. -/
import Derived.Test.YthoemgiadadfcaaDoorRdRefK
import Derived.Test.YthoemgiadadfcaaDoorRdRefS1
import Derived.Test.YthoemgiadadfcaaDoorRdRefS2
import Derived.Test.YthoemgiadadfcaaDoorRdRefT
import Derived.Test.YthoemgiadadfcaaDoorRdRefP
set_option linter.unusedVariables false
set_option linter.unusedSimpArgs false
namespace Go.Proofs.YthoemgiadadfcaaDoor
open Go.RowKit Go.Sort Rd
theorem kd_word {s : ByteArray} (h : kd s < 5) : s = sDrop ∨ s = sTwice ∨ s = sSwap ∨ s = sSpoil ∨ s = sTrim := by
  unfold kd at h
  split at h
  · exact .inl ‹_›
  · split at h
    · exact .inr (.inl ‹_›)
    · split at h
      · exact .inr (.inr (.inl ‹_›))
      · split at h
        · exact .inr (.inr (.inr (.inl ‹_›)))
        · split at h
          · exact .inr (.inr (.inr (.inr ‹_›)))
          · omega
theorem deedL_out (x : Ac) (xs : List It) (hi : ¬ inn x.a xs.length) : deedL x xs = xs := by
  unfold deedL deedK
  split
  · unfold dropL; rw [if_neg hi]
  · unfold twiceL; rw [if_neg (fun h => hi h.1)]
  · unfold swapL; rw [if_neg (fun h => hi h.1)]
  · unfold updL; rw [if_neg hi]
  · unfold updL; rw [if_neg hi]
  · rfl
theorem refDo_is (v : Value) (xs : List It) (x : Ac) (w : World) (h : Rr w 2 lc v xs) (hn : xs.length ≤ 1000) (hsz : Sz 140737488355328 xs) (hk : kd x.w < 5) : Calls Tryd.prog 15 #[v, ArgA x] w (Rx w (deedL x xs)) := by
  by_cases hi : inn x.a xs.length
  · obtain ⟨xw, xa, xb, xc⟩ := x
    obtain ⟨i, rfl⟩ : ∃ i : Nat, xa = i := ⟨xa.toNat, by have := hi.1; simp only at this ⊢; omega⟩
    have hil : i < xs.length := by have := hi.2; simp only at this; omega
    have ht : xs.take xs.length = xs := List.take_length
    rcases kd_word hk with e | e | e | e | e
    · have hd : deedL ⟨xw, i, xb, xc⟩ xs = runF (rdDrop i xs) xs.length := by
        rw [rdDrop_is i xs _ (Nat.le_refl _), if_neg (by omega), ht]
        unfold deedL
        rw [show kd (Ac.mk xw i xb xc).w = 0 from by rw [e]; rfl]
        show dropL _ _ = _
        unfold dropL
        rw [if_pos hi]; rfl
      rw [hd]
      exact ref_drop v xs xw i xb xc w h hn hil e
    · have hd : deedL ⟨xw, i, xb, xc⟩ xs = runF (rdTwice i xs) xs.length := by
        rw [rdTwice_is i xs _ (Nat.le_refl _), if_neg (by omega), ht]
        unfold deedL
        rw [show kd (Ac.mk xw i xb xc).w = 1 from by rw [e]; rfl]
        show twiceL _ _ = _
        unfold twiceL
        rw [if_pos ⟨hi, by omega⟩]; rfl
      rw [hd]
      exact ref_twice v xs xw i xb xc w h hn hil e
    · by_cases hb : inn xb xs.length
      · obtain ⟨j, rfl⟩ : ∃ j : Nat, xb = j := ⟨xb.toNat, by have := hb.1; omega⟩
        have hjl : j < xs.length := by have := hb.2; omega
        have hd : deedL ⟨xw, i, j, xc⟩ xs = runF (rdSwap i j xs) xs.length := by
          rw [rdSwap_is i j xs hil hjl]
          unfold deedL
          rw [show kd (Ac.mk xw i j xc).w = 2 from by rw [e]; rfl]
          show swapL _ _ = _
          unfold swapL
          rw [if_pos ⟨hi, hb⟩]; rfl
        rw [hd]
        exact ref_swap v xs xw i j xc w h hn hil e hjl
      · have hd : deedL ⟨xw, i, xb, xc⟩ xs = runF (rdSame xs) xs.length := by
          rw [rdSame_is xs]
          unfold deedL
          rw [show kd (Ac.mk xw i xb xc).w = 2 from by rw [e]; rfl]
          show swapL _ _ = _
          unfold swapL
          rw [if_neg (fun h => hb h.2)]
        rw [hd]
        by_cases hb0 : 0 ≤ xb
        · exact ref_swap_hi v xs xw i xb xc w h hn hil e hb0 (by unfold inn at hb; omega)
        · exact ref_swap_lo v xs xw i xb xc w h hn hil e (by omega)
    · have hd : deedL ⟨xw, i, xb, xc⟩ xs = runF (rdUpd i (spoilF xb xc) xs) xs.length := by
        rw [rdUpd_is]
        unfold deedL
        rw [show kd (Ac.mk xw i xb xc).w = 3 from by rw [e]; rfl]
        show updL _ _ _ = _
        unfold updL
        rw [if_pos hi]; rfl
      rw [hd]
      exact ref_spoil v xs xw i xb xc w h hn hil e hsz
    · have hd : deedL ⟨xw, i, xb, xc⟩ xs = runF (rdUpd i (trimF xb) xs) xs.length := by
        rw [rdUpd_is]
        unfold deedL
        rw [show kd (Ac.mk xw i xb xc).w = 4 from by rw [e]; rfl]
        show updL _ _ _ = _
        unfold updL
        rw [if_pos hi]; rfl
      rw [hd]
      exact ref_trim v xs xw i xb xc w h hn hil e
  · rw [deedL_out x xs hi]
    refine (ref_out v xs x w h hn hi).mono fun e w' h9 => ?_
    exact ⟨v, h9.1, h.below h9.2, h9.2⟩
end Go.Proofs.YthoemgiadadfcaaDoor
