/- The document's band, place, chips: their walks. -/
import Derived.Test.YthmiomncgkmnoaaDoorKeyRefOrder
import Derived.Test.YthmiomncgkmnoaaDoorKeyRef
set_option linter.unusedVariables false
set_option linter.unusedSimpArgs false
namespace Go.Proofs.YthmiomncgkmnoaaDoor
open Go.RowKit Go.Sort Sip Kd
theorem refOrder_cell (kl : List Nat) (hk : kl.length = 16) (hb : Bytes kl) (sg : Nat) (hs : sg < 256) (n : Nat) (h1 : 1 ≤ n) (h2 : n ≤ 256) (Q : Nat) (hQ : Q < n) (w : World) :
    Calls Tryd.prog 37 #[.agg (keyV kl), .int .u8 sg, .int .i64 (n : Nat)] w fun e w' => ∃ g cap, e = .returned (.slice (some ⟨g, 0, none⟩) n cap) ∧ w'.cell? ⟨g, Q, none⟩ = some (.int .i64 ((ord kl sg n).getD Q 0 : Nat)) ∧ Below w.heap.size w w' := by
  refine (refOrder_is kl hk hb sg hs n h1 h2 w).mono ?_
  rintro e w' ⟨g, cap, rfl, ho, hw⟩
  have hl : (casts (ord kl sg n)).length = n := by rw [casts_length, ord_length]
  generalize ord kl sg n = L at *
  rw [← hl] at ho
  have hc := ho.at_ Q (by rw [hl]; exact hQ)
  rw [casts_get] at hc
  exact ⟨g, cap, rfl, hc, hw⟩
set_option maxRecDepth 100000 in
set_option maxHeartbeats 1600000 in
theorem refBand_is (kl : List Nat) (hk : kl.length = 16) (hb : Bytes kl) (n : Int) (w : World) :
    Calls Tryd.prog 38 #[.agg (keyV kl), .int .i64 n] w fun e w' => e = .returned (.int .i64 ((ord kl (128 + fr n / 8) 8).getD (fr n % 8) 0 : Nat)) ∧ Below w.heap.size w w' := by
  have hf := fun w => refFrame_is n w
  obtain ⟨F, hF⟩ : ∃ F, F = fr n := ⟨_, rfl⟩
  have hFl : F < 1016 := by rw [hF]; exact fr_lt n
  rw [← hF] at hf
  rw [← hF]
  obtain ⟨Q, hQ⟩ : ∃ Q, Q = F % 8 := ⟨_, rfl⟩
  have hQl : Q < 8 := by omega
  have ho : ∀ w, Calls Tryd.prog 37 #[.agg (keyV kl), .int .u8 ((128 + F / 8 : Nat) : Int), .int .i64 8] w fun e w' => ∃ g cap, e = .returned (.slice (some ⟨g, 0, none⟩) 8 cap) ∧ w'.cell? ⟨g, Q, none⟩ = some (.int .i64 ((ord kl (128 + F / 8) 8).getD Q 0 : Nat)) ∧ Below w.heap.size w w' := fun w => refOrder_cell kl hk hb (128 + F / 8) (by omega) 8 (by omega) (by omega) Q hQl w
  obtain ⟨S, hS⟩ : ∃ S, S = 128 + F / 8 := ⟨_, rfl⟩
  rw [← hS] at ho
  rw [← hS]
  have hQ1 : (F : Int) % 8 = (Q : Int) := by omega
  have hS1 : (128 : Int) + (F : Int) / 8 = (S : Int) := by omega
  have hS2 : IntKind.u8.wrap (S : Int) = (S : Int) := conv_i64_u8 S (by omega)
  rw [← hQ]
  generalize (ord kl S 8).getD Q 0 = V at *
  have h0 : Hid ((w.alloc (.cells (keyV kl) 23)).heap[w.heap.size]? = some (.cells (keyV kl) 23 (0, 0))) := heap_alloc_new w _
  have hw0 : Hid (Below w.heap.size w (w.alloc (.cells (keyV kl) 23))) := (Below.refl _ _).alloc (Nat.le_refl _) _
  have hsz := Lib.hid (size23 kl hk)
  clear hk hb hS hQ hF
  go_enter Tryd.func38, Tryd.ntmps38
  go_upto_region 1 with (fail)
  generalize w.alloc (.cells (keyV kl) 23) = W at *
  obtain ⟨b, hb0⟩ : ∃ b, b = w.heap.size := ⟨_, rfl⟩
  rw [← hb0] at h0
  rw [← hb0]
  clear hb0
  have hq := ho W
  clear ho
  go_wp2_with (first | (refine wpList_load_row rfl 23 (.tmp 2) rfl b rfl 23 (keyV kl) (0, 0) _ h0.out Tryd.underlying23 rfl hsz.out ?_) | (go_at_call 36; (with_reducible refine (hf _).mono ?_); rintro e w7 ⟨rfl, rfl⟩) | (go_at_call 37; (with_reducible refine hq.mono ?_); rintro e w8 ⟨g, cap, rfl, hc, hb8⟩; have HB8 := Lib.hid hb8; clear hb8 hq))
  go_ret
  exact ⟨rfl, hw0.out.trans (HB8.out.mono hw0.out.size)⟩
set_option maxRecDepth 100000 in
set_option maxHeartbeats 1600000 in
theorem refPlace_is (kl : List Nat) (hk : kl.length = 16) (hb : Bytes kl) (n : Int) (w : World) :
    Calls Tryd.prog 40 #[.agg (keyV kl), .int .i64 n] w fun e w' => e = .returned (.int .i64 ((ord kl 112 127).getD (fr n % 127) 0 : Nat)) ∧ Below w.heap.size w w' := by
  have hf := fun w => refFrame_is n w
  obtain ⟨F, hF⟩ : ∃ F, F = fr n := ⟨_, rfl⟩
  have hFl : F < 1016 := by rw [hF]; exact fr_lt n
  rw [← hF] at hf
  rw [← hF]
  obtain ⟨Q, hQ⟩ : ∃ Q, Q = F % 127 := ⟨_, rfl⟩
  have hQl : Q < 127 := by omega
  have ho : ∀ w, Calls Tryd.prog 37 #[.agg (keyV kl), .int .u8 112, .int .i64 127] w fun e w' => ∃ g cap, e = .returned (.slice (some ⟨g, 0, none⟩) 127 cap) ∧ w'.cell? ⟨g, Q, none⟩ = some (.int .i64 ((ord kl 112 127).getD Q 0 : Nat)) ∧ Below w.heap.size w w' := fun w => refOrder_cell kl hk hb 112 (by omega) 127 (by omega) (by omega) Q hQl w
  have hQ1 : (F : Int) % 127 = (Q : Int) := by omega
  rw [← hQ]
  generalize (ord kl 112 127).getD Q 0 = V at *
  have h0 : Hid ((w.alloc (.cells (keyV kl) 23)).heap[w.heap.size]? = some (.cells (keyV kl) 23 (0, 0))) := heap_alloc_new w _
  have hw0 : Hid (Below w.heap.size w (w.alloc (.cells (keyV kl) 23))) := (Below.refl _ _).alloc (Nat.le_refl _) _
  have hsz := Lib.hid (size23 kl hk)
  clear hk hb hQ hF
  go_enter Tryd.func40, Tryd.ntmps40
  go_upto_region 1 with (fail)
  generalize w.alloc (.cells (keyV kl) 23) = W at *
  obtain ⟨b, hb0⟩ : ∃ b, b = w.heap.size := ⟨_, rfl⟩
  rw [← hb0] at h0
  rw [← hb0]
  clear hb0
  have hq := ho W
  clear ho
  go_wp2_with (first | (refine wpList_load_row rfl 23 (.tmp 2) rfl b rfl 23 (keyV kl) (0, 0) _ h0.out Tryd.underlying23 rfl hsz.out ?_) | (go_at_call 36; (with_reducible refine (hf _).mono ?_); rintro e w7 ⟨rfl, h7⟩; subst h7) | (go_at_call 37; (with_reducible refine hq.mono ?_); rintro e w8 ⟨g, cap, rfl, hc, hb8⟩; have HB8 := Lib.hid hb8; clear hb8 hq))
  go_ret
  exact ⟨rfl, hw0.out.trans (HB8.out.mono hw0.out.size)⟩
theorem refBit_V (x k : Nat) (hx : x < 2 ^ 64) (hk : k < 64) : ∃ V : Int, (0 ≤ V ∧ V ≤ 1) ∧ (chip x k = 1 - 2 * V) ∧ V = (if x.testBit k = true then 1 else 0) := by
  refine ⟨_, ?_, ?_, rfl⟩
  · split <;> omega
  · unfold chip; split <;> rfl
set_option maxRecDepth 100000 in
set_option maxHeartbeats 1600000 in
theorem refChips_is (kl : List Nat) (hk : kl.length = 16) (hb : Bytes kl) (n : Int) (w : World) :
    Calls Tryd.prog 39 #[.agg (keyV kl), .int .i64 n] w fun e w' => e = .returned (.agg (chv (chip (num kl 99 (fr n))))) ∧ Below w.heap.size w w' := by
  have hf := fun w => refFrame_is n w
  obtain ⟨F, hF⟩ : ∃ F, F = fr n := ⟨_, rfl⟩
  have hFl : F < 1016 := by rw [hF]; exact fr_lt n
  rw [← hF] at hf
  rw [← hF]
  have hq : ∀ w, Calls Tryd.prog 35 #[.agg (keyV kl), .int .u8 99, .int .i64 (F : Nat)] w fun e w' => e = .returned (.int .u64 (num kl 99 F : Nat)) ∧ Below w.heap.size w w' := fun w => by
    have := refNum_is kl hk hb 99 (by omega) F w
    rw [u64of_nat F (by omega)] at this
    exact this
  have hXl := num_lt64 kl hk hb 99 (by omega) F
  obtain ⟨X, hX⟩ : ∃ X, X = num kl 99 F := ⟨_, rfl⟩
  rw [← hX] at hq hXl
  rw [← hX]
  obtain ⟨V0, hv0, e0, x0⟩ := refBit_V X 0 hXl (by omega)
  obtain ⟨V1, hv1, e1, x1⟩ := refBit_V X 1 hXl (by omega)
  obtain ⟨V2, hv2, e2, x2⟩ := refBit_V X 2 hXl (by omega)
  obtain ⟨V3, hv3, e3, x3⟩ := refBit_V X 3 hXl (by omega)
  have b0 : ∀ w, Calls Tryd.prog 47 #[.int .u64 (X : Nat), .int .i64 0] w fun e w' => e = .returned (.int .i64 V0) ∧ w' = w := by rw [x0]; exact fun w => refBit_is X 0 hXl (by omega) w
  have b1 : ∀ w, Calls Tryd.prog 47 #[.int .u64 (X : Nat), .int .i64 1] w fun e w' => e = .returned (.int .i64 V1) ∧ w' = w := by rw [x1]; exact fun w => refBit_is X 1 hXl (by omega) w
  have b2 : ∀ w, Calls Tryd.prog 47 #[.int .u64 (X : Nat), .int .i64 2] w fun e w' => e = .returned (.int .i64 V2) ∧ w' = w := by rw [x2]; exact fun w => refBit_is X 2 hXl (by omega) w
  have b3 : ∀ w, Calls Tryd.prog 47 #[.int .u64 (X : Nat), .int .i64 3] w fun e w' => e = .returned (.int .i64 V3) ∧ w' = w := by rw [x3]; exact fun w => refBit_is X 3 hXl (by omega) w
  have hC : ((((chv fun _ => 0).setIfInBounds 0 (.int .i64 (1 - 2 * V0))).setIfInBounds 1 (.int .i64 (1 - 2 * V1))).setIfInBounds 2 (.int .i64 (1 - 2 * V2))).setIfInBounds 3 (.int .i64 (1 - 2 * V3)) = chv (chip X) := by rw [← e0, ← e1, ← e2, ← e3]; rfl
  obtain ⟨C, hCe⟩ : ∃ C, C = chv (chip X) := ⟨_, rfl⟩
  rw [← hCe] at hC
  rw [← hCe]
  have hone : Hid (C.all (·.oneCell') = true) := by show _ = _; rw [hCe]; exact chv_one _
  have hs5 : Hid ((Tryd.prog.info? 50).map (·.size) = some C.size) := by show _ = _; rw [hCe]; exact size50 _
  have hold : Hid ((chv fun _ => 0).size = C.size) := by show _ = _; rw [hCe, chv_size, chv_size]
  have HC := Lib.hid hC
  have hz := zero50
  have hh : Hid ((w.alloc (.cells (keyV kl) 23)).heap.size = w.heap.size + 1) := by show _ = _; simp
  have hW : Hid (Below w.heap.size w ((w.alloc (.cells (keyV kl) 23)).alloc (.cells (chv fun _ => 0) 50))) := ((Below.refl _ _).alloc (Nat.le_refl _) _).alloc (by simp) _
  have h0 : Hid (((w.alloc (.cells (keyV kl) 23)).alloc (.cells (chv fun _ => 0) 50)).heap[w.heap.size]? = some (.cells (keyV kl) 23 (0, 0))) := (((Below.refl _ _).alloc (Nat.le_refl _) _ : Below (w.alloc (.cells (keyV kl) 23)).heap.size (w.alloc (.cells (keyV kl) 23)) _).block _ (by simp)).trans (heap_alloc_new w _)
  have h1 : Hid (((w.alloc (.cells (keyV kl) 23)).alloc (.cells (chv fun _ => 0) 50)).heap[w.heap.size + 1]? = some (.cells (chv fun _ => 0) 50 (0, 0))) := by
    have := heap_alloc_new (w.alloc (.cells (keyV kl) 23)) (.cells (chv fun _ => 0) 50)
    rw [World.size_alloc] at this
    exact this
  have hsz := Lib.hid (size23 kl hk)
  clear hk hb hX hF e0 e1 e2 e3 x0 x1 x2 x3 hC hCe
  obtain ⟨p0, p0'⟩ := hv0
  obtain ⟨p1, p1'⟩ := hv1
  obtain ⟨p2, p2'⟩ := hv2
  obtain ⟨p3, p3'⟩ := hv3
  go_enter Tryd.func39, Tryd.ntmps39
  go_upto_region 1 with (fail)
  generalize (w.alloc (.cells (keyV kl) 23)).alloc (.cells (chv fun _ => 0) 50) = W at *
  obtain ⟨r, hr0⟩ : ∃ r, r = w.heap.size + 1 := ⟨_, rfl⟩
  have hnr : Hid (w.heap.size ≤ r) := by show w.heap.size ≤ r; omega
  rw [← hr0] at h1
  rw [← hr0]
  clear hr0 hh
  obtain ⟨b, hb0⟩ : ∃ b, b = w.heap.size := ⟨_, rfl⟩
  rw [← hb0] at h0
  rw [← hb0]
  clear hb0
  have c1 : Hid (∀ d os, Calls Tryd.prog 36 #[.int .i64 n] (grow (redrawn W d) os) fun e w' => e = .returned (.int .i64 (F : Nat)) ∧ ∃ p : Regrown, w' = grow (redrawn W p.d) p.os) := fun d os => (hf _).mono fun e w' ⟨h1, h2⟩ => ⟨h1, ⟨d, os⟩, h2⟩
  have c2 := Lib.hid fun d os => (hq (grow (redrawn W d) os)).regrown_of
  clear hq
  refine wp_region_below_tail 4 (by kernel_rfl) (by kernel_rfl) ?_
  simp only [List.take_succ_cons, List.take_zero, List.drop_succ_cons, List.drop_zero]
  repeat (first | go_big_quiet_skip | (go_big_quiet_want; refine quiet_load_row 23 (.tmp 2) rfl b rfl 23 (keyV kl) (0, 0) _ h0.out Tryd.underlying23 rfl hsz.out ?_; simp only [Act.put, List.setIfInBounds_toArray, List.set_cons_succ, List.set_cons_zero]; go_big_quiet_on) | go_big_quiet_step (first | (with_reducible exact c1.out _ _) | (with_reducible exact c2.out _ _)))
  refine wpQuiet_nil ?_
  intro _ hw'
  obtain ⟨⟨dq, osq⟩, hw''⟩ := hw'
  subst hw''
  have hbq : Hid (Below W.heap.size W (grow (redrawn W dq) osq)) := below_regrown W dq osq
  generalize grow (redrawn W dq) osq = W5 at *
  clear c1 c2 hf
  have hres : W5.heap[r]? = some (.cells (chv fun _ => 0) 50 (0, 0)) := (hbq.out.block r (Array.getElem?_eq_some_iff.1 h1.out).1).trans h1.out
  have hb5 : Hid (Below w.heap.size w W5) := hW.out.trans (hbq.out.mono hW.out.size)
  clear hbq h1 h0 hW
  go_wp2_with (first | (go_at_call 47; (with_reducible refine (b0 _).mono ?_); rintro e w7 ⟨rfl, h7⟩; have h7 := h7.symm; subst h7; clear b0) | (go_at_call 47; (with_reducible refine (b1 _).mono ?_); rintro e w7 ⟨rfl, h7⟩; have h7 := h7.symm; subst h7; clear b1) | (go_at_call 47; (with_reducible refine (b2 _).mono ?_); rintro e w7 ⟨rfl, h7⟩; have h7 := h7.symm; subst h7; clear b2) | (go_at_call 47; (with_reducible refine (b3 _).mono ?_); rintro e w7 ⟨rfl, h7⟩; have h7 := h7.symm; subst h7; clear b3) | (rw [HC.out]; refine wpList_store_row rfl 50 _ _ rfl r C rfl rfl 50 _ hres hs5.out hold.out hone.out ?_))
  exact bodyPost_ret (v := .agg C) (results_cell_row Tryd.results39 _ _ r 50 _ (0, 0) _ rfl (setRow_heap W5 r _ _ 50 _ hres) Tryd.underlying50 rfl hs5.out) rfl ⟨rfl, (Keep.setRow W5 r C [r] (by simp)).below hb5.out (by intro j hj; rw [List.mem_singleton] at hj; rw [hj]; exact hnr.out)⟩
end Go.Proofs.YthmiomncgkmnoaaDoor
