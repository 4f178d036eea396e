/- A frame's number's rest, its band, its place: the walks of keyed.Frame, Band, Place, and of belfrylaw02.awake. -/
import Derived.Test.YthmiomncgkmnoaaDoorKeyOrderIs
set_option linter.unusedVariables false
set_option linter.unusedSimpArgs false
namespace Go.Proofs.YthmiomncgkmnoaaDoor
open Go.RowKit Go.Sort Sip Kd
namespace Kd
def fr (n : Int) : Nat := (n % 1016).toNat
theorem fr_lt (n : Int) : fr n < 1016 := by unfold fr; omega
end Kd
theorem ordK_length (f : Nat → Nat) : ∀ i l, (ordK f i l).length = l.length
  | 0, _ => rfl
  | i + 1, l => by rw [ordK, ordK_length f i, swp_length]
theorem ord_length (kl : List Nat) (sg n : Nat) : (ord kl sg n).length = n := by unfold ord; rw [ordK_length, List.length_range]
theorem frame_is (n : Int) (w : World) : Calls Tryd.prog 33 #[.int .i64 n] w fun e w' => e = .returned (.int .i64 (fr n : Nat)) ∧ w' = w := by
  obtain ⟨T, hT⟩ : ∃ T, T = Int.tmod n 1016 := ⟨_, rfl⟩
  have h2 : -1016 < T ∧ T < 1016 ∧ (T + 1016) % 1016 = n % 1016 := by
    rw [hT, Int.tmod_eq_emod]
    split <;> omega
  obtain ⟨h3, h4, h5⟩ := h2
  have h7 : (fr n : Int) = n % 1016 := by unfold fr; omega
  rw [← h7] at h5
  have hd : n.tmod 1016 = T := hT.symm
  have hp : 0 ≤ T + 1016 := by omega
  clear h7 hT
  obtain ⟨X, hX⟩ : ∃ X, X = fr n := ⟨_, rfl⟩
  rw [← hX] at h5
  rw [← hX]
  have hd2 : (T + 1016).tmod 1016 = (X : Int) := by rw [Int.tmod_eq_emod_of_nonneg hp]; exact h5
  clear hX
  go_enter Tryd.func33, Tryd.ntmps33
  go_wp2
  go_ret
  exact ⟨by first | rfl | (rw [h5]; rfl) | (rw [h5]), rfl⟩
set_option maxRecDepth 100000 in
set_option maxHeartbeats 1600000 in
theorem band_is (kl : List Nat) (hk : kl.length = 16) (hb : Bytes kl) (n : Int) (w : World) (hg : Signs w) :
    Calls Tryd.prog 29 #[.agg (keyV kl), .int .i64 n] w fun e w' => e = .returned (.int .i64 ((ord kl (128 + fr n / 8) 8).getD (fr n % 8) 0 : Nat)) ∧ Below w.heap.size w w' := by
  have hf := fun w => frame_is n w
  obtain ⟨F, hF⟩ : ∃ F, F = fr n := ⟨_, rfl⟩
  have hFl : F < 1016 := by rw [hF]; exact fr_lt n
  rw [← hF] at hf
  rw [← hF]
  have ho : ∀ w, Signs w → Calls Tryd.prog 27 #[.agg (keyV kl), .int .u8 ((128 + F / 8 : Nat) : Int), .int .i64 8] w fun e w' => ∃ g, e = .returned (.slice (some ⟨g, 0, none⟩) 8 8) ∧ Row w' g .i64 (casts (ord kl (128 + F / 8) 8)) ∧ Below w.heap.size w w' ∧ w.heap.size ≤ g := fun w hg => order_is kl hk hb (128 + F / 8) (by omega) 8 (by omega) (by omega) w hg
  obtain ⟨S, hS⟩ : ∃ S, S = 128 + F / 8 := ⟨_, rfl⟩
  rw [← hS] at ho
  rw [← hS]
  obtain ⟨Q, hQ⟩ : ∃ Q, Q = F % 8 := ⟨_, rfl⟩
  have hQl : Q < 8 := by omega
  have hQ1 : (F : Int) % 8 = (Q : Int) := by omega
  have hS1 : (128 : Int) + (F : Int) / 8 = (S : Int) := by omega
  have hS2 : IntKind.u8.wrap (S : Int) = (S : Int) := conv_i64_u8 S (by omega)
  rw [← hQ]
  have h0 : Hid ((w.alloc (.cells (keyV kl) 23)).heap[w.heap.size]? = some (.cells (keyV kl) 23 (0, 0))) := heap_alloc_new w _
  have hw0 : Hid (Below w.heap.size w (w.alloc (.cells (keyV kl) 23))) := (Below.refl _ _).alloc (Nat.le_refl _) _
  have hG : Hid (Signs (w.alloc (.cells (keyV kl) 23))) := hg.below hw0.out
  have hsz := Lib.hid (size23 kl hk)
  have HO := Lib.hid ho
  have hlen : Hid ((casts (ord kl S 8)).length = 8) := by show _ = 8; rw [casts_length, ord_length]
  clear hk hb hg ho hS hQ hF
  go_enter Tryd.func29, Tryd.ntmps29
  go_upto_region 1 with (fail)
  generalize w.alloc (.cells (keyV kl) 23) = W at *
  obtain ⟨b, hb0⟩ : ∃ b, b = w.heap.size := ⟨_, rfl⟩
  rw [← hb0] at h0
  rw [← hb0]
  clear hb0
  have hq := HO.out W hG.out
  clear HO
  go_wp2_with (first | (refine wpList_load_row rfl 23 (.tmp 2) rfl b rfl 23 (keyV kl) (0, 0) _ h0.out Tryd.underlying23 rfl hsz.out ?_) | (go_at_call 33; (with_reducible refine (hf _).mono ?_); rintro e w7 ⟨rfl, rfl⟩) | (go_at_call 27; (with_reducible refine hq.mono ?_); rintro e w8 ⟨g, rfl, hr8, hb8, hn8⟩; have hc := hr8.at_ Q (by rw [hlen.out]; exact hQl); rw [casts_get] at hc; have HB8 := Lib.hid hb8; clear hr8 hb8 hn8 hq))
  go_ret
  exact ⟨rfl, hw0.out.trans (HB8.out.mono hw0.out.size)⟩
set_option maxRecDepth 100000 in
set_option maxHeartbeats 1600000 in
theorem place_is (kl : List Nat) (hk : kl.length = 16) (hb : Bytes kl) (n : Int) (w : World) (hg : Signs w) :
    Calls Tryd.prog 30 #[.agg (keyV kl), .int .i64 n] w fun e w' => e = .returned (.int .i64 ((ord kl 112 127).getD (fr n % 127) 0 : Nat)) ∧ Below w.heap.size w w' := by
  have hf := fun w => frame_is n w
  obtain ⟨F, hF⟩ : ∃ F, F = fr n := ⟨_, rfl⟩
  have hFl : F < 1016 := by rw [hF]; exact fr_lt n
  rw [← hF] at hf
  rw [← hF]
  have ho : ∀ w, Signs w → Calls Tryd.prog 27 #[.agg (keyV kl), .int .u8 112, .int .i64 127] w fun e w' => ∃ g, e = .returned (.slice (some ⟨g, 0, none⟩) 127 127) ∧ Row w' g .i64 (casts (ord kl 112 127)) ∧ Below w.heap.size w w' ∧ w.heap.size ≤ g := fun w hg => order_is kl hk hb 112 (by omega) 127 (by omega) (by omega) w hg
  obtain ⟨Q, hQ⟩ : ∃ Q, Q = F % 127 := ⟨_, rfl⟩
  have hQl : Q < 127 := by omega
  have hQ1 : (F : Int) % 127 = (Q : Int) := by omega
  rw [← hQ]
  have h0 : Hid ((w.alloc (.cells (keyV kl) 23)).heap[w.heap.size]? = some (.cells (keyV kl) 23 (0, 0))) := heap_alloc_new w _
  have hw0 : Hid (Below w.heap.size w (w.alloc (.cells (keyV kl) 23))) := (Below.refl _ _).alloc (Nat.le_refl _) _
  have hG : Hid (Signs (w.alloc (.cells (keyV kl) 23))) := hg.below hw0.out
  have hsz := Lib.hid (size23 kl hk)
  have HO := Lib.hid ho
  have hlen : Hid ((casts (ord kl 112 127)).length = 127) := by show _ = 127; rw [casts_length, ord_length]
  clear hk hb hg ho hQ hF
  go_enter Tryd.func30, Tryd.ntmps30
  go_upto_region 1 with (fail)
  generalize w.alloc (.cells (keyV kl) 23) = W at *
  obtain ⟨b, hb0⟩ : ∃ b, b = w.heap.size := ⟨_, rfl⟩
  rw [← hb0] at h0
  rw [← hb0]
  clear hb0
  have hq := HO.out W hG.out
  clear HO
  go_wp2_with (first | (refine wpList_load_row rfl 23 (.tmp 2) rfl b rfl 23 (keyV kl) (0, 0) _ h0.out Tryd.underlying23 rfl hsz.out ?_) | (go_at_call 33; (with_reducible refine (hf _).mono ?_); rintro e w7 ⟨rfl, rfl⟩) | (go_at_call 27; (with_reducible refine hq.mono ?_); rintro e w8 ⟨g, rfl, hr8, hb8, hn8⟩; have hc := hr8.at_ Q (by rw [hlen.out]; exact hQl); rw [casts_get] at hc; have HB8 := Lib.hid hb8; clear hr8 hb8 hn8 hq))
  go_ret
  exact ⟨rfl, hw0.out.trans (HB8.out.mono hw0.out.size)⟩
end Go.Proofs.YthmiomncgkmnoaaDoor
