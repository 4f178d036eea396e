/- Sound as frames of waves, and back, is as it was: the plain law. -/
import Derived.Test.YthoemgiadadfcaaWsJoin
import Derived.Test.YthoemgiadadfcaaWsSplit
set_option linter.unusedVariables false
set_option linter.unusedSimpArgs false
namespace Go.Proofs.Ythoemgiadadfcaa
namespace Ws
theorem run_range {φ : Nat → F → F} (k : Nat) (h : F) : run φ (List.range (k + 1)) h = φ k (run φ (List.range k) h) := by
  unfold run
  rw [List.range_succ, List.foldl_append]
  rfl
theorem seamK_run : ∀ (k : Nat) (h : F), seamK k h = run seamAt (List.range k) h
  | 0, _ => rfl
  | k + 1, h => by rw [seamK, run_range, seamK_run k h]
theorem unseamK_run : ∀ (k : Nat) (h : F), unseamK k h = run unseamAt (List.range k) h
  | 0, _ => rfl
  | k + 1, h => by rw [unseamK, run_range, unseamK_run k h]
def Sm (k c : Nat) : Prop := 32 * k + 16 ≤ c ∧ c < 32 * k + 48
theorem seam_hi (k j : Nat) (h : F) (hj : j < 16) : seamAt k h (32 * k + 32 + j) = (tn (h (32 * k + 31 - j)) (h (32 * k + 32 + j)) (62 - 4 * (j : Int))).2 := by
  unfold seamAt sB fra
  rw [if_pos (by omega), if_pos (by omega), if_pos (by omega), if_pos (by omega)]
  rw [show 32 * k + 32 + j - (k + 1) * 32 = j by omega, show k * 32 + (31 - j) = 32 * k + 31 - j by omega, show (k + 1) * 32 + j = 32 * k + 32 + j by omega]
theorem seam_lo (k j : Nat) (h : F) (hj : j < 16) : seamAt k h (32 * k + 31 - j) = (tn (h (32 * k + 31 - j)) (h (32 * k + 32 + j)) (62 - 4 * (j : Int))).1 := by
  unfold seamAt sA fra
  rw [if_neg (by omega), if_pos (by omega), if_pos (by omega), if_pos (by omega), if_pos (by omega)]
  rw [show 31 - (32 * k + 31 - j - k * 32) = j by omega, show k * 32 + (32 * k + 31 - j - k * 32) = 32 * k + 31 - j by omega, show (k + 1) * 32 + j = 32 * k + 32 + j by omega]
theorem unseam_hi (k j : Nat) (h : F) (hj : j < 16) : unseamAt k h (32 * k + 32 + j) = (bk (h (32 * k + 31 - j)) (h (32 * k + 32 + j)) (62 - 4 * (j : Int))).2 := by
  unfold unseamAt uB fra
  rw [if_pos (by omega), if_pos (by omega), if_pos (by omega), if_pos (by omega)]
  rw [show 32 * k + 32 + j - (k + 1) * 32 = j by omega, show k * 32 + (31 - j) = 32 * k + 31 - j by omega, show (k + 1) * 32 + j = 32 * k + 32 + j by omega]
theorem unseam_lo (k j : Nat) (h : F) (hj : j < 16) : unseamAt k h (32 * k + 31 - j) = (bk (h (32 * k + 31 - j)) (h (32 * k + 32 + j)) (62 - 4 * (j : Int))).1 := by
  unfold unseamAt uA fra
  rw [if_neg (by omega), if_pos (by omega), if_pos (by omega), if_pos (by omega), if_pos (by omega)]
  rw [show 31 - (32 * k + 31 - j - k * 32) = j by omega, show k * 32 + (32 * k + 31 - j - k * 32) = 32 * k + 31 - j by omega, show (k + 1) * 32 + j = 32 * k + 32 + j by omega]
theorem seam_out (k c : Nat) (h : F) (hc : ¬ Sm k c) : seamAt k h c = h c := by
  unfold Sm at hc
  unfold seamAt
  by_cases h1 : (k + 1) * 32 ≤ c ∧ c < (k + 1) * 32 + 32
  · rw [if_pos h1]; unfold sB fra; rw [if_neg (by omega), if_pos (by omega)]; congr 1; omega
  · rw [if_neg h1]
    by_cases h2 : k * 32 ≤ c ∧ c < k * 32 + 32
    · rw [if_pos h2]; unfold sA fra; rw [if_neg (by omega), if_pos (by omega)]; congr 1; omega
    · rw [if_neg h2]
theorem unseam_out (k c : Nat) (h : F) (hc : ¬ Sm k c) : unseamAt k h c = h c := by
  unfold Sm at hc
  unfold unseamAt
  by_cases h1 : (k + 1) * 32 ≤ c ∧ c < (k + 1) * 32 + 32
  · rw [if_pos h1]; unfold uB fra; rw [if_neg (by omega), if_pos (by omega)]; congr 1; omega
  · rw [if_neg h1]
    by_cases h2 : k * 32 ≤ c ∧ c < k * 32 + 32
    · rw [if_pos h2]; unfold uA fra; rw [if_neg (by omega), if_pos (by omega)]; congr 1; omega
    · rw [if_neg h2]
theorem Sm.cases {k c : Nat} (h : Sm k c) : ∃ j, j < 16 ∧ (c = 32 * k + 32 + j ∨ c = 32 * k + 31 - j) := by
  unfold Sm at h
  by_cases h1 : 32 * k + 32 ≤ c
  · exact ⟨c - (32 * k + 32), by omega, .inl (by omega)⟩
  · exact ⟨32 * k + 31 - c, by omega, .inr (by omega)⟩
theorem seam_local (k : Nat) : Local (Sm k) (seamAt k) := ⟨fun f c hc => seam_out k c f hc, fun f f' he c hc => by
  obtain ⟨j, hj, rfl | rfl⟩ := hc.cases
  · rw [seam_hi k j _ hj, seam_hi k j _ hj, he _ (by unfold Sm; omega), he _ (by unfold Sm; omega)]
  · rw [seam_lo k j _ hj, seam_lo k j _ hj, he _ (by unfold Sm; omega), he _ (by unfold Sm; omega)]⟩
theorem unseam_local (k : Nat) : Local (Sm k) (unseamAt k) := ⟨fun f c hc => unseam_out k c f hc, fun f f' he c hc => by
  obtain ⟨j, hj, rfl | rfl⟩ := hc.cases
  · rw [unseam_hi k j _ hj, unseam_hi k j _ hj, he _ (by unfold Sm; omega), he _ (by unfold Sm; omega)]
  · rw [unseam_lo k j _ hj, unseam_lo k j _ hj, he _ (by unfold Sm; omega), he _ (by unfold Sm; omega)]⟩
theorem seam_inv (k : Nat) {M : Int} (hM : 0 ≤ M) (hM2 : M ≤ 274877906944) (f : F) (hf : Bd M f) : unseamAt k (seamAt k f) = f := by
  funext c
  by_cases hc : Sm k c
  · obtain ⟨j, hj, rfl | rfl⟩ := hc.cases
    · rw [unseam_hi k j _ hj, seam_lo k j _ hj, seam_hi k j _ hj, bk_tn _ hM hM2 (hf _) (hf _)]
    · rw [unseam_lo k j _ hj, seam_lo k j _ hj, seam_hi k j _ hj, bk_tn _ hM hM2 (hf _) (hf _)]
  · rw [unseam_out k c _ hc, seam_out k c _ hc]
theorem seam_le (k : Nat) {M : Int} (hM : 0 ≤ M) (hM2 : M ≤ 1099511627776) (f : F) (hf : ∀ c, Sm k c → -M ≤ f c ∧ f c ≤ M) : ∀ c, Sm k c → -(gr M) ≤ seamAt k f c ∧ seamAt k f c ≤ gr M := by
  intro c hc
  obtain ⟨j, hj, rfl | rfl⟩ := hc.cases
  · rw [seam_hi k j _ hj]; exact (tn_le _ hM hM2 (hf _ (by unfold Sm; omega)) (hf _ (by unfold Sm; omega))).2
  · rw [seam_lo k j _ hj]; exact (tn_le _ hM hM2 (hf _ (by unfold Sm; omega)) (hf _ (by unfold Sm; omega))).1
theorem seams_apart (k : Nat) : (List.range k).Pairwise (fun p q => ∀ c, ¬ (Sm p c ∧ Sm q c)) := List.pairwise_lt_range.imp fun {p q} h c hc => by unfold Sm at hc; omega
theorem seamK_le (k : Nat) {M : Int} (hM : 0 ≤ M) (hM2 : M ≤ 1099511627776) {f : F} (hf : Bd M f) : Bd (gr M) (seamK k f) := by
  rw [seamK_run]
  exact run_le (gr_le hM) seam_local (fun p f h => seam_le p hM hM2 f h) _ (seams_apart k) f hf
theorem seamK_inv (k : Nat) {M : Int} (hM : 0 ≤ M) (hM2 : M ≤ 274877906944) {f : F} (hf : Bd M f) : unseamK k (seamK k f) = f := by
  rw [unseamK_run, seamK_run]
  exact run_inv seam_local unseam_local _ (seams_apart k) (fun p _ f hf => seam_inv p hM hM2 f hf) f hf
theorem waveb_own {f f' : F} (h : ∀ c, c < 32 → f c = f' c) (c : Nat) (hc : c < 32) : waveb f c = waveb f' c := by
  obtain ⟨s2, s4, s8, s16⟩ := stages
  have e1 : ∀ c, c < 32 → b1 f c = b1 f' c := fun c hc => by
    have := flip_lt (c / 2)
    unfold b1
    rw [h _ (by omega), h _ (by omega)]
  have e5 : ∀ c, c < 32 → b5 f c = b5 f' c := fun c hc => by
    unfold b5
    exact (stage_local s16).own _ _ (fun c hc => (stage_local s8).own _ _ (fun c hc => (stage_local s4).own _ _ (fun c hc => (stage_local s2).own _ _ e1 c hc) c hc) c hc) c hc
  unfold waveb b6
  by_cases h : c % 2 = 0
  · rw [if_pos h, if_pos h, e5 _ (by omega), e5 _ (by omega)]
  · rw [if_neg h, if_neg h, e5 _ (by omega), e5 _ (by omega)]
theorem fra_le {M : Int} (hM : 0 ≤ M) {h : F} (hf : Bd M h) (k : Nat) : Bd M (fra h k) := fun c => by
  unfold fra
  split
  · exact hf _
  · omega
theorem wab_wav (N : Nat) {M : Int} (hM : 0 ≤ M) (hM2 : M ≤ 16777216) {h : F} (hf : Bd M h) : wabK N (wavK N h) = h := by
  funext c
  unfold wabK
  by_cases hc : c / 32 < N
  · rw [if_pos hc]
    have e : ∀ j, j < 32 → fra (wavK N h) (c / 32) j = waves (fra h (c / 32)) j := fun j hj => by
      unfold fra
      rw [if_pos hj]
      unfold wavK
      rw [if_pos (by omega), show (c / 32 * 32 + j) / 32 = c / 32 by omega, show (c / 32 * 32 + j) % 32 = j by omega]
      rfl
    rw [waveb_own e _ (Nat.mod_lt _ (by omega)), waveb_waves hM hM2 (fra_le hM hf _) _ (Nat.mod_lt _ (by omega))]
    unfold fra
    rw [if_pos (Nat.mod_lt _ (by omega))]
    congr 1; omega
  · rw [if_neg hc]
    unfold wavK
    rw [if_neg hc]
theorem samples_frames (xs : List Int) (hx : Bd 131072 fun c => xs.getD c 0) : samplesF (cnt xs.length) (framesF xs) = fun c => xs.getD c 0 := by
  unfold samplesF framesF
  have h1 := seamK_le (cnt xs.length - 1) (by omega) (by omega) hx
  rw [wab_wav _ (by decide) (by decide) h1]
  exact seamK_inv _ (by omega) (by omega) hx
theorem frames_le (xs : List Int) (hx : Bd 131072 fun c => xs.getD c 0) (i : Nat) : -16777216 ≤ framesF xs i ∧ framesF xs i ≤ 16777216 := by
  have h1 := seamK_le (cnt xs.length - 1) (by omega) (by omega) hx
  unfold framesF
  generalize seamK (cnt xs.length - 1) (fun c => xs.getD c 0) = h at *
  have c1 : gr 131072 = 196610 := by decide
  rw [c1] at h1
  unfold wavK
  split
  · have := waves_le (by decide) (by decide) (fra_le (by decide) h1 (i / 32)) (i % 32)
    have c2 : gr (gr (gr (gr (gr (gr (gr (gr (gr (gr 196610))))))))) ≤ 16777216 := by decide +kernel
    omega
  · have := h1 i; omega
theorem seams_le (xs : List Int) (hx : Bd 131072 fun c => xs.getD c 0) : Bd 16777216 (seamK (cnt xs.length - 1) fun c => xs.getD c 0) := fun c => by
  have h1 := seamK_le (cnt xs.length - 1) (by omega) (by omega) hx c
  have c1 : gr 131072 = 196610 := by decide
  rw [c1] at h1
  omega
theorem jn_get (ms ss : List Int) : ∀ (k i : Nat), i < k → (jn ms ss k).getD (2 * i) 0 = ms.getD i 0 - ss.getD i 0 / 2 + ss.getD i 0 ∧ (jn ms ss k).getD (2 * i + 1) 0 = ms.getD i 0 - ss.getD i 0 / 2
  | k + 1, i, h => by
    have hl := jn_length ms ss k
    rw [jn]
    by_cases e : i = k
    · subst e
      constructor
      · rw [List.getD_eq_getElem?_getD, List.getElem?_append_right (by omega), show 2 * i - (jn ms ss i).length = 0 by omega]; rfl
      · rw [List.getD_eq_getElem?_getD, List.getElem?_append_right (by omega), show 2 * i + 1 - (jn ms ss i).length = 1 by omega]; rfl
    · have := jn_get ms ss k i (by omega)
      constructor
      · rw [List.getD_eq_getElem?_getD, List.getElem?_append_left (by omega), ← List.getD_eq_getElem?_getD]; exact this.1
      · rw [List.getD_eq_getElem?_getD, List.getElem?_append_left (by omega), ← List.getD_eq_getElem?_getD]; exact this.2
theorem map_getD (n : Nat) (g : Nat → Int) (i : Nat) : ((List.range n).map g).getD i 0 = if i < n then g i else 0 := by
  rw [List.getD_eq_getElem?_getD, List.getElem?_map]
  by_cases h : i < n
  · rw [List.getElem?_range h, if_pos h]; rfl
  · rw [List.getElem?_eq_none (by simpa using h), if_neg h]; rfl
/-- What was split is joined again, and behind it zeros. -/
theorem joined (xs : List Int) (K n : Nat) (hl : xs.length = 2 * K) (hn : K ≤ n) (i : Nat) (hi : i < 2 * n) :
    (jn ((List.range n).map fun c => ((List.range K).map (mF xs)).getD c 0) ((List.range n).map fun c => ((List.range K).map (sF xs)).getD c 0) n).getD i 0 = xs.getD i 0 := by
  have hb : ∀ j, 2 * K ≤ j → xs.getD j 0 = 0 := fun j hj => by rw [List.getD_eq_getElem?_getD, List.getElem?_eq_none (by omega)]; rfl
  have key : ∀ q, q < n → ((List.range n).map fun c => ((List.range K).map (mF xs)).getD c 0).getD q 0 = (if q < K then mF xs q else 0) ∧ ((List.range n).map fun c => ((List.range K).map (sF xs)).getD c 0).getD q 0 = (if q < K then sF xs q else 0) := fun q hq => by
    constructor
    · rw [map_getD, if_pos hq, map_getD]
    · rw [map_getD, if_pos hq, map_getD]
  obtain ⟨q, hq⟩ : ∃ q, q = i / 2 := ⟨_, rfl⟩
  have hg := jn_get ((List.range n).map fun c => ((List.range K).map (mF xs)).getD c 0) ((List.range n).map fun c => ((List.range K).map (sF xs)).getD c 0) n q (by omega)
  obtain ⟨k1, k2⟩ := key q (by omega)
  rw [k1, k2] at hg
  by_cases h2 : i % 2 = 0
  · rw [show i = 2 * q by omega, hg.1]
    by_cases hk : q < K
    · rw [if_pos hk, if_pos hk]; unfold mF sF; omega
    · rw [if_neg hk, if_neg hk, hb _ (by omega)]; rfl
  · rw [show i = 2 * q + 1 by omega, hg.2]
    by_cases hk : q < K
    · rw [if_pos hk, if_pos hk]; unfold mF sF; omega
    · rw [if_neg hk, if_neg hk, hb _ (by omega)]; rfl
end Ws
end Go.Proofs.Ythoemgiadadfcaa
