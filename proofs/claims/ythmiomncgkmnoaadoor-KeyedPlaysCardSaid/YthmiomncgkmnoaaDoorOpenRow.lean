/- Arrays of numbers that come in by value. -/
import Derived.Test.YthmiomncgkmnoaaDoorSipAwake
import Derived.OpenShut
import Derived.ProofKit
import Derived.WideShapes
set_option linter.unusedVariables false
set_option linter.unusedSimpArgs false
namespace Go.Proofs.YthmiomncgkmnoaaDoor
open Go.ChangeShapes Go.WideShapes Go.ChangeAt Go.RowKit Sip
theorem okWide_array {P : Program} {w : World} {r : Reach} {b n : Nat} {t e : TypeId} {v : Value} (ht : P.underlying t = some (.array n e)) (h : Value.okWide P w r b t v) : ∃ cs, v = .agg cs ∧ cs.size = P.cellsOf t := by
  unfold Value.okWide at h
  rw [ht] at h
  obtain ⟨cs, h1, h2, _⟩ := h
  exact ⟨cs, h1, h2⟩
theorem open_nums {H : Type} {enc : TypeId × Value → H} {P : Program} {w : World} {base : Nat} {spare : Nat → Bool} {held : Bool} {r : Reach} {b n : Nat} {t e : TypeId} {k : IntKind} {v : Value} {d : DataW H} {p : List MemPlace}
    (ht : P.underlying t = some (.array n e)) (he : P.underlying e = some (.int k)) (hce : P.cellsOf e = 1) (hct : P.cellsOf t = n)
    (hv : Value.okWide P w r b t v) (h : DataW.Trod enc P w base spare held t v d p) :
    ∃ zs : List Int, v = .agg (zs.map (Value.int k)).toArray ∧ zs.length = n ∧ ∀ z ∈ zs, (Lit.int k z).wf = true := by
  obtain ⟨cs, rfl, hsz⟩ := okWide_array ht hv
  obtain ⟨fuel, hf⟩ := h
  have hf' : DataW.trod enc P w base spare held fuel t cs.toList = some (d, p) := hf
  obtain ⟨xs, m, _, _, hl, hxl, hget⟩ := DataW.trod_array ht hf'
  rw [hce] at hget
  have hcl : cs.toList.length = n := by rw [Array.length_toList, hsz, hct]
  have key : ∀ i, i < n → ∃ z, cs.toList[i]? = some (.int k z) ∧ (Lit.int k z).wf = true := by
    intro i hi
    have h1 := hget i hi
    have h2 : xs[i]? = some (xs[i]'(by omega)) := List.getElem?_eq_getElem (by omega)
    rw [h2, Nat.mul_one] at h1
    obtain ⟨z, h3, _, h4⟩ := DataW.trod_int he h1
    refine ⟨z, ?_, h4⟩
    have h5 : (cs.toList.drop i).take 1 = [cs.toList[i]'(by omega)] := by
      rw [List.drop_eq_getElem_cons (by omega)]; rfl
    rw [h5] at h3
    rw [List.getElem?_eq_getElem (by omega)]
    simpa using h3
  have build : ∀ (l : List Value), (∀ i, i < l.length → ∃ z, l[i]? = some (.int k z) ∧ (Lit.int k z).wf = true) → ∃ zs : List Int, l = zs.map (Value.int k) ∧ ∀ z ∈ zs, (Lit.int k z).wf = true := by
    intro l
    induction l with
    | nil => intro _; exact ⟨[], rfl, by simp⟩
    | cons x l ih =>
      intro h
      obtain ⟨z, h1, h2⟩ := h 0 (by simp)
      obtain ⟨zs, h3, h4⟩ := ih fun i hi => by simpa using h (i + 1) (by simp; omega)
      have h1' : x = .int k z := by simpa using h1
      refine ⟨z :: zs, by rw [h1', h3]; rfl, ?_⟩
      intro y hy
      rcases List.mem_cons.1 hy with e | e
      · rw [e]; exact h2
      · exact h4 y e
  obtain ⟨zs, h1, h2⟩ := build cs.toList fun i hi => key i (by omega)
  refine ⟨zs, ?_, by rw [← hcl, h1, List.length_map], h2⟩
  rw [← h1]
theorem wf_nat_u8 {z : Int} (h : (Lit.int .u8 z).wf = true) : z = (z.toNat : Nat) ∧ z.toNat < 256 := by
  simp only [Lit.wf, Bool.and_eq_true, decide_eq_true_eq] at h
  have h1 : IntKind.u8.min = 0 := rfl
  have h2 : IntKind.u8.max = 255 := rfl
  omega
theorem wf_nat_u64 {z : Int} (h : (Lit.int .u64 z).wf = true) : z = (z.toNat : Nat) ∧ z.toNat < 2 ^ 64 := by
  simp only [Lit.wf, Bool.and_eq_true, decide_eq_true_eq] at h
  have h1 : IntKind.u64.min = 0 := rfl
  have h2 : IntKind.u64.max = 18446744073709551615 := rfl
  omega
theorem open_key {H : Type} {enc : TypeId × Value → H} {w : World} {base : Nat} {spare : Nat → Bool} {held : Bool} {r : Reach} {b : Nat} {v : Value} {d : DataW H} {p : List MemPlace}
    (hv : Value.okWide Tryd.prog w r b 23 v) (h : DataW.Trod enc Tryd.prog w base spare held 23 v d p) : ∃ kl : List Nat, v = .agg (keyV kl) ∧ kl.length = 16 ∧ Bytes kl := by
  obtain ⟨zs, rfl, h1, h2⟩ := open_nums Tryd.underlying23 Tryd.underlying5 (by kernel_rfl) (by kernel_rfl) hv h
  refine ⟨zs.map Int.toNat, ?_, by rw [List.length_map, h1], ?_⟩
  · unfold keyV
    rw [List.map_map]
    congr 2
    apply List.map_congr_left
    intro z hz
    show Value.int .u8 z = .int .u8 ((z.toNat : Nat) : Int)
    rw [← (wf_nat_u8 (h2 z hz)).1]
  · intro c hc
    obtain ⟨z, hz, rfl⟩ := List.mem_map.1 hc
    exact (wf_nat_u8 (h2 z hz)).2
theorem open_four {H : Type} {enc : TypeId × Value → H} {w : World} {base : Nat} {spare : Nat → Bool} {held : Bool} {r : Reach} {b : Nat} {v : Value} {d : DataW H} {p : List MemPlace}
    (hv : Value.okWide Tryd.prog w r b 35 v) (h : DataW.Trod enc Tryd.prog w base spare held 35 v d p) : ∃ f : Four, v = .agg (cells4 f) ∧ f.Ok := by
  obtain ⟨zs, rfl, h1, h2⟩ := open_nums Tryd.underlying35 Tryd.underlying27 (by kernel_rfl) (by kernel_rfl) hv h
  obtain ⟨z0, z1, z2, z3, rfl⟩ : ∃ a b c d, zs = [a, b, c, d] := by
    match zs, h1 with
    | [a, b, c, d], _ => exact ⟨a, b, c, d, rfl⟩
  have e0 := wf_nat_u64 (h2 z0 (by simp))
  have e1 := wf_nat_u64 (h2 z1 (by simp))
  have e2 := wf_nat_u64 (h2 z2 (by simp))
  have e3 := wf_nat_u64 (h2 z3 (by simp))
  refine ⟨⟨z0.toNat, z1.toNat, z2.toNat, z3.toNat⟩, ?_, ⟨e0.2, e1.2, e2.2, e3.2⟩⟩
  unfold cells4
  show Value.agg #[.int .u64 z0, .int .u64 z1, .int .u64 z2, .int .u64 z3] = _
  dsimp only
  rw [← e0.1, ← e1.1, ← e2.1, ← e3.1]
theorem gSigns : Tryd.prog.globalNamed "belfry/sip.signs" = some 0 := by kernel_rfl
end Go.Proofs.YthmiomncgkmnoaaDoor
