/- The seam between two blocks: the walks of lap.Seam, Unseam. -/
import Derived.Test.YthoemgiadadfcaaWsWv
set_option linter.unusedVariables false
set_option linter.unusedSimpArgs false
namespace Go.Proofs.Ythoemgiadadfcaa
open Go.RowKit Go.Sort Ws
/-- Two frames at a and b, their results at r1 and r2. -/
structure Sw (w0 w : World) (a b r1 r2 : Nat) (f g p1 p2 : F) : Prop where
  A : Blk w a 47 32 f
  B : Blk w b 47 32 g
  R1 : Blk w r1 47 32 p1
  R2 : Blk w r2 47 32 p2
  below : Below w0.heap.size w0 w
  new : w0.heap.size ≤ a ∧ w0.heap.size ≤ b ∧ w0.heap.size ≤ r1 ∧ w0.heap.size ≤ r2
  ne : a ≠ b ∧ a ≠ r1 ∧ a ≠ r2 ∧ b ≠ r1 ∧ b ≠ r2 ∧ r1 ≠ r2
section
variable {w0 w w' : World} {a b r1 r2 : Nat} {f g f' g' p1 p2 : F}
theorem Sw.later (h : Sw w0 w a b r1 r2 f g p1 p2) (hb : Below w.heap.size w w') : Sw w0 w' a b r1 r2 f g p1 p2 :=
  ⟨h.A.below hb, h.B.below hb, h.R1.below hb, h.R2.below hb, h.below.trans (hb.mono h.below.size), h.new, h.ne⟩
theorem Sw.congr (h : Sw w0 w a b r1 r2 f g p1 p2) (hf : ∀ i, i < 32 → f i = f' i) (hg : ∀ i, i < 32 → g i = g' i) : Sw w0 w a b r1 r2 f' g' p1 p2 := ⟨h.A.congr hf, h.B.congr hg, h.R1, h.R2, h.below, h.new, h.ne⟩
theorem Sw.setA (h : Sw w0 w a b r1 r2 f g p1 p2) (i : Nat) (x : Int) : Sw w0 (w.setCell ⟨a, i, none⟩ (.int .i64 x)) a b r1 r2 (fun m => if m = i then x else f m) g p1 p2 := by
  have hk : Keep w (w.setCell ⟨a, i, none⟩ (.int .i64 x)) [a] := Keep.setCell _ _ _ _ (by simp)
  have hn := h.ne
  exact ⟨h.A.set i x, h.B.keep hk (by simp; omega), h.R1.keep hk (by simp; omega), h.R2.keep hk (by simp; omega), hk.below h.below (by intro j hj; rw [List.mem_singleton] at hj; rw [hj]; exact h.new.1), h.new, h.ne⟩
theorem Sw.setB (h : Sw w0 w a b r1 r2 f g p1 p2) (i : Nat) (x : Int) : Sw w0 (w.setCell ⟨b, i, none⟩ (.int .i64 x)) a b r1 r2 f (fun m => if m = i then x else g m) p1 p2 := by
  have hk : Keep w (w.setCell ⟨b, i, none⟩ (.int .i64 x)) [b] := Keep.setCell _ _ _ _ (by simp)
  have hn := h.ne
  exact ⟨h.A.keep hk (by simp; omega), h.B.set i x, h.R1.keep hk (by simp; omega), h.R2.keep hk (by simp; omega), hk.below h.below (by intro j hj; rw [List.mem_singleton] at hj; rw [hj]; exact h.new.2.1), h.new, h.ne⟩
theorem Sw.put1 (h : Sw w0 w a b r1 r2 f g p1 p2) (l : F) : Sw w0 (w.setRow r1 (iv 32 l)) a b r1 r2 f g l p2 := by
  have hk : Keep w (w.setRow r1 (iv 32 l)) [r1] := Keep.setRow _ _ _ _ (by simp)
  have hn := h.ne
  exact ⟨h.A.keep hk (by simp; omega), h.B.keep hk (by simp; omega), h.R1.setRow l, h.R2.keep hk (by simp; omega), hk.below h.below (by intro j hj; rw [List.mem_singleton] at hj; rw [hj]; exact h.new.2.2.1), h.new, h.ne⟩
theorem Sw.put2 (h : Sw w0 w a b r1 r2 f g p1 p2) (l : F) : Sw w0 (w.setRow r2 (iv 32 l)) a b r1 r2 f g p1 l := by
  have hk : Keep w (w.setRow r2 (iv 32 l)) [r2] := Keep.setRow _ _ _ _ (by simp)
  have hn := h.ne
  exact ⟨h.A.keep hk (by simp; omega), h.B.keep hk (by simp; omega), h.R1.keep hk (by simp; omega), h.R2.setRow l, hk.below h.below (by intro j hj; rw [List.mem_singleton] at hj; rw [hj]; exact h.new.2.2.2), h.new, h.ne⟩
end
theorem results_rows {P : Program} {fn : Func} {p q : Tmp} {ty : TypeId} (h : fn.results = #[.cell p ty, .cell q ty]) (tmps : Array Value) (w : World) (g g2 : Nat) (t : TypeId) (cs cs2 : Array Value) (fr : Nat × Nat) (d : TypeDesc)
    (hp : tmps.getD p undef = .pointer (some ⟨g, 0, none⟩)) (hq : tmps.getD q undef = .pointer (some ⟨g2, 0, none⟩)) (hg : w.heap[g]? = some (.cells cs t fr)) (hg2 : w.heap[g2]? = some (.cells cs2 t fr))
    (hu : P.underlying ty = some d) (hd : (match d with | .struct _ | .array _ _ => true | _ => false) = true) (hi : (P.info? ty).map (·.size) = some cs.size) (hi2 : (P.info? ty).map (·.size) = some cs2.size) :
    (results fn tmps).run P w = .ok (.tuple #[.agg cs, .agg cs2]) w := by
  have hp' : tmps[p]?.getD undef = .pointer (some ⟨g, 0, none⟩) := by simpa using hp
  have hq' : tmps[q]?.getD undef = .pointer (some ⟨g2, 0, none⟩) := by simpa using hq
  simp [results, h, hp', hq', asAddr, run_loadVar_row w g t ty cs fr d hg hu hd hi, run_loadVar_row w g2 t ty cs2 fr d hg2 hu hd hi2]
theorem seam_start (f g : F) (w : World) : ∃ W, W = (((w.alloc (.cells (iv 32 f) 47)).alloc (.cells (iv 32 g) 47)).alloc (.cells (iv 32 fun _ => 0) 47)).alloc (.cells (iv 32 fun _ => 0) 47) ∧
    Sw w W w.heap.size (w.heap.size + 1) (w.heap.size + 2) (w.heap.size + 3) f g (fun _ => 0) (fun _ => 0) := by
  have n1 := Blk.new w 47 32 f
  have n2 := Blk.new (w.alloc (.cells (iv 32 f) 47)) 47 32 g
  have n3 := Blk.new ((w.alloc (.cells (iv 32 f) 47)).alloc (.cells (iv 32 g) 47)) 47 32 fun _ => 0
  have n4 := Blk.new (((w.alloc (.cells (iv 32 f) 47)).alloc (.cells (iv 32 g) 47)).alloc (.cells (iv 32 fun _ => 0) 47)) 47 32 fun _ => 0
  have b1 : ∀ (w : World) (o : Obj), Below w.heap.size w (w.alloc o) := fun w o => (Below.refl _ _).alloc (Nat.le_refl _) _
  simp only [World.size_alloc] at n2 n3 n4
  refine ⟨_, rfl, (((n1.below (b1 _ _)).below (b1 _ _)).below (b1 _ _)), (n2.below (b1 _ _)).below (b1 _ _), n3.below (b1 _ _), n4, ?_, by omega, by omega⟩
  have c1 := b1 w (.cells (iv 32 f) 47)
  have c2 := c1.trans ((b1 (w.alloc (.cells (iv 32 f) 47)) (.cells (iv 32 g) 47)).mono c1.size)
  have c3 := c2.trans ((b1 ((w.alloc (.cells (iv 32 f) 47)).alloc (.cells (iv 32 g) 47)) (.cells (iv 32 fun _ => 0) 47)).mono c2.size)
  exact c3.trans ((b1 _ _).mono c3.size)
namespace Ws
def sA (f g : F) (n : Nat) : F := fun c => if 31 - c < n then (tn (f c) (g (31 - c)) (62 - 4 * ((31 - c : Nat) : Int))).1 else f c
def sB (f g : F) (n : Nat) : F := fun c => if c < n then (tn (f (31 - c)) (g c) (62 - 4 * (c : Int))).2 else g c
end Ws
theorem sA_step (f g : F) (n : Nat) (hn : n < 16) : ∀ c, c < 32 → (if c = 31 - n then (tn (f (31 - n)) (g n) (62 - 4 * (n : Int))).1 else sA f g n c) = sA f g (n + 1) c := by
  intro c hc
  unfold sA
  by_cases h : c = 31 - n
  · rw [if_pos h, if_pos (by omega), h, show 31 - (31 - n) = n by omega]
  · rw [if_neg h]
    by_cases h2 : 31 - c < n
    · rw [if_pos h2, if_pos (by omega)]
    · rw [if_neg h2, if_neg (by omega)]
theorem sB_step (f g : F) (n : Nat) (hn : n < 16) : ∀ c, c < 32 → (if c = n then (tn (f (31 - n)) (g n) (62 - 4 * (n : Int))).2 else sB f g n c) = sB f g (n + 1) c := by
  intro c hc
  unfold sB
  by_cases h : c = n
  · rw [if_pos h, if_pos (by omega), h]
  · rw [if_neg h]
    by_cases h2 : c < n
    · rw [if_pos h2, if_pos (by omega)]
    · rw [if_neg h2, if_neg (by omega)]
set_option maxRecDepth 100000 in
set_option maxHeartbeats 6400000 in
theorem seam_is (f g : F) (w : World) : Calls Try.prog 16 #[.agg (iv 32 f), .agg (iv 32 g)] w fun e w' => e = .returned (.tuple #[.agg (iv 32 (sA f g 16)), .agg (iv 32 (sB f g 16))]) ∧ Below w.heap.size w w' := by
  have hz := zero47
  obtain ⟨W, hWe, hV0⟩ := seam_start f g w
  have hV0 : Hid (Sw w W w.heap.size (w.heap.size + 1) (w.heap.size + 2) (w.heap.size + 3) (sA f g 0) (sB f g 0) (fun _ => 0) (fun _ => 0)) := hV0.congr (fun i _ => by unfold sA; rw [if_neg (by omega)]) fun i _ => by unfold sB; rw [if_neg (by omega)]
  have hWE := Lib.hid hWe
  have HS4 := Lib.hid fun f => size47 f
  clear hWe
  go_enter Try.func16, Try.ntmps16
  go_upto_region 1 with (fail)
  rw [← hWE.out]
  clear hWE
  obtain ⟨r2, hr2⟩ : ∃ r2, r2 = w.heap.size + 3 := ⟨_, rfl⟩
  obtain ⟨r1, hr1⟩ : ∃ r1, r1 = w.heap.size + 2 := ⟨_, rfl⟩
  obtain ⟨b, hb⟩ : ∃ b, b = w.heap.size + 1 := ⟨_, rfl⟩
  obtain ⟨a, ha⟩ : ∃ a, a = w.heap.size := ⟨_, rfl⟩
  rw [← hr2, ← hr1, ← hb, ← ha] at hV0
  first | rw [show w.heap.size + 1 + 1 + 1 = r2 by omega] | rw [← hr2]
  first | rw [show w.heap.size + 1 + 1 = r1 by omega] | rw [← hr1]
  first | rw [show w.heap.size + 1 = b by omega] | rw [← hb]
  rw [← ha]
  clear hr2 hr1 hb ha
  go_wp2
  go_loopw [7] (fun q wr => ∃ n : Nat, n ≤ 16 ∧ q = .int .i64 n ∧ Hid (Sw w wr a b r1 r2 (sA f g n) (sB f g n) (fun _ => 0) (fun _ => 0))) (fun q _ => 16 - (intOf q).toNat)
  case atStart => exact ⟨0, by omega, rfl, hV0⟩
  case round =>
    clear hV0
    obtain ⟨n, hn, rfl, hA⟩ := hrel
    obtain ⟨wo, rfl⟩ : ∃ wo : World, wo = wr := ⟨_, rfl⟩
    by_cases hlt : n < 16
    · have v1 : sA f g n (31 - n) = f (31 - n) := by unfold sA; rw [if_neg (by omega)]
      have v2 : sB f g n n = g n := by unfold sB; rw [if_neg (by omega)]
      have h1 := sA_step f g n hlt
      have h2 := sB_step f g n hlt
      obtain ⟨x, hx⟩ : ∃ x, f (31 - n) = x := ⟨_, rfl⟩
      obtain ⟨y, hy⟩ : ∃ y, g n = y := ⟨_, rfl⟩
      rw [hx] at v1
      rw [hy] at v2
      rw [hx, hy] at h1 h2
      obtain ⟨M, hM⟩ : ∃ M, M = 31 - n := ⟨_, rfl⟩
      obtain ⟨Q4, hQ4⟩ : ∃ Q4 : Nat, Q4 = 4 * n := ⟨_, rfl⟩
      obtain ⟨K, hK⟩ : ∃ K : Int, K = 62 - 4 * (n : Int) := ⟨_, rfl⟩
      rw [← hM] at v1 h1
      rw [← hK] at h1 h2
      have hq := fun w => turn_is x y K w
      generalize (tn x y K).1 = X at *
      generalize (tn x y K).2 = Y at *
      have e1 : 31 - (n : Int) = (M : Int) := by omega
      have e2 : 4 * (n : Int) = (Q4 : Int) := by omega
      have e3 : 62 - (Q4 : Int) = K := by omega
      have ew1 : IntKind.i64.wrap (M : Int) = (M : Int) := by rw [IntKind.wrap_i64]; omega
      have ew2 : IntKind.i64.wrap (Q4 : Int) = (Q4 : Int) := by rw [IntKind.wrap_i64]; omega
      have ew3 : IntKind.i64.wrap K = K := by rw [IntKind.wrap_i64]; omega
      have hbI : (M : Int) < 32 ∧ (n : Int) < 32 := by omega
      obtain ⟨hb1, hb2⟩ := hbI
      have hnI : (n : Int) < 16 := by omega
      have hbd : Hid (M < 32 ∧ n < 32) := by show _ ∧ _; omega
      obtain ⟨fa, hfa⟩ : ∃ fa, fa = sA f g n := ⟨_, rfl⟩
      obtain ⟨gb, hgb⟩ : ∃ gb, gb = sB f g n := ⟨_, rfl⟩
      rw [← hfa] at v1 h1 hA
      rw [← hgb] at v2 h2 hA
      have hfin : Hid (∀ W6, Sw w W6 a b r1 r2 (fun m => if m = M then X else fa m) (fun m => if m = n then Y else gb m) (fun _ => 0) (fun _ => 0) → Sw w W6 a b r1 r2 (sA f g (n + 1)) (sB f g (n + 1)) (fun _ => 0) (fun _ => 0)) := fun W6 h6 => h6.congr (fun i hi => h1 i hi) fun i hi => h2 i hi
      have hq := Lib.hid hq
      have V1 := Lib.hid v1
      have V2 := Lib.hid v2
      clear hx hy hM hQ4 hK hfa hgb v1 v2 h1 h2
      go_upto_region 4 with (fail)
      obtain ⟨I, hI⟩ : ∃ I : (Nat → Bool) → Act → World → Prop, ∀ dn ac wc, I dn ac wc ↔ ∃ s10 s11 s12 s13 s14 s15 s16 s17 s18 s19 s20 s21 s22 s23 s24 s25 s26 s27 s28, ac = ⟨#[Value.agg (iv 32 f), Value.agg (iv 32 g), Value.pointer (some { block := a, off := 0 }), Value.pointer (some { block := b, off := 0 }), Value.pointer (some { block := r1, off := 0 }), Value.pointer (some { block := r2, off := 0 }), Value.int IntKind.i64 ↑n, Value.int IntKind.i64 ↑n, .bool true, Value.int IntKind.i64 ↑n, s10, s11, s12, s13, s14, s15, s16, s17, s18, s19, s20, s21, s22, s23, s24, s25, s26, s27, s28, u29, undef, undef], []⟩ ∧
        St2 wc dn [(0, .int .i64 (n : Nat), s11), (1, .int .i64 (M : Nat), s12), (2, .int .i64 (n : Nat), s13), (3, .int .i64 (n : Nat), s14), (4, .int .i64 (M : Nat), s15), (5, .pointer (some ⟨a, M, none⟩), s16), (6, .int .i64 x, s17), (7, .int .i64 (n : Nat), s18), (8, .pointer (some ⟨b, n, none⟩), s19), (9, .int .i64 y, s20), (10, .int .i64 (n : Nat), s21), (11, .int .i64 (Q4 : Nat), s22), (12, .int .i64 K, s23), (13, .tuple #[.int .i64 X, .int .i64 Y], s24), (14, .tuple #[.int .i64 X, .int .i64 Y], s10), (15, .int .i64 X, s25), (16, .int .i64 Y, s26), (17, .pointer (some ⟨a, M, none⟩), s27), (19, .pointer (some ⟨b, n, none⟩), s28)] (fun w' => Sw w w' a b r1 r2 fa gb (fun _ => 0) (fun _ => 0)) (fun w' => Sw w w' a b r1 r2 (fun m => if m = M then X else fa m) gb (fun _ => 0) (fun _ => 0)) (fun w' => Sw w w' a b r1 r2 (fun m => if m = M then X else fa m) (fun m => if m = n then Y else gb m) (fun _ => 0) (fun _ => 0)) 18 20 [6, 9] := ⟨_, fun _ _ _ => Iff.rfl⟩
      have HI := Lib.hid hI
      clear hI
      refine wp_region_inv (by kernel_rfl) (by kernel_rfl) I ?_ ?_ ?_
      · exact (HI.out _ _ _).2 ⟨_, _, _, _, _, _, _, _, _, _, _, _, _, _, _, _, _, _, _, rfl, St2.start _ _ _ _ _ _ _ _ hA.out (fun _ _ h hb => h.later hb)⟩
      · intro i o dn ac wc ho hd hdep hIn
        obtain ⟨s10, s11, s12, s13, s14, s15, s16, s17, s18, s19, s20, s21, s22, s23, s24, s25, s26, s27, s28, rfl, hT⟩ := (HI.out _ _ _).1 hIn
        clear hIn
        rcases i with _ | _ | _ | _ | _ | _ | _ | _ | _ | _ | _ | _ | _ | _ | _ | _ | _ | _ | _ | _ | _ | i
        · obtain rfl := Option.some.inj ho
          have HT := Lib.hid hT
          clear hT hdep
          refine .inl ?_
          unfold Oper.wp
          go_simp
          exact (HI.out _ _ _).2 ⟨_, _, _, _, _, _, _, _, _, _, _, _, _, _, _, _, _, _, _, rfl, (HT.out).put 0 0 (.int .i64 (n : Nat)) (by decide) rfl⟩
        · obtain rfl := Option.some.inj ho
          have e0 := hT.vals _ (List.Mem.head _) (hdep ⟨0, .data⟩ (by simp) rfl)
          dsimp only at e0
          subst e0
          have HT := Lib.hid hT
          clear hT hdep
          refine .inl ?_
          unfold Oper.wp
          go_simp
          exact (HI.out _ _ _).2 ⟨_, _, _, _, _, _, _, _, _, _, _, _, _, _, _, _, _, _, _, rfl, (HT.out).put 1 1 (.int .i64 (M : Nat)) (by decide) rfl⟩
        · obtain rfl := Option.some.inj ho
          have HT := Lib.hid hT
          clear hT hdep
          refine .inl ?_
          unfold Oper.wp
          go_simp
          exact (HI.out _ _ _).2 ⟨_, _, _, _, _, _, _, _, _, _, _, _, _, _, _, _, _, _, _, rfl, (HT.out).put 2 2 (.int .i64 (n : Nat)) (by decide) rfl⟩
        · obtain rfl := Option.some.inj ho
          have HT := Lib.hid hT
          clear hT hdep
          refine .inl ?_
          unfold Oper.wp
          go_simp
          exact (HI.out _ _ _).2 ⟨_, _, _, _, _, _, _, _, _, _, _, _, _, _, _, _, _, _, _, rfl, (HT.out).put 3 3 (.int .i64 (n : Nat)) (by decide) rfl⟩
        · obtain rfl := Option.some.inj ho
          have e3 := hT.vals _ (List.Mem.tail _ (List.Mem.tail _ (List.Mem.tail _ (List.Mem.head _)))) (hdep ⟨3, .data⟩ (by simp) rfl)
          dsimp only at e3
          subst e3
          have HT := Lib.hid hT
          clear hT hdep
          refine .inl ?_
          unfold Oper.wp
          go_simp
          exact (HI.out _ _ _).2 ⟨_, _, _, _, _, _, _, _, _, _, _, _, _, _, _, _, _, _, _, rfl, (HT.out).put 4 4 (.int .i64 (M : Nat)) (by decide) rfl⟩
        · obtain rfl := Option.some.inj ho
          have e4 := hT.vals _ (List.Mem.tail _ (List.Mem.tail _ (List.Mem.tail _ (List.Mem.tail _ (List.Mem.head _))))) (hdep ⟨4, .data⟩ (by simp) rfl)
          dsimp only at e4
          subst e4
          have HT := Lib.hid hT
          clear hT hdep
          refine .inl ?_
          unfold Oper.wp
          go_simp
          exact (HI.out _ _ _).2 ⟨_, _, _, _, _, _, _, _, _, _, _, _, _, _, _, _, _, _, _, rfl, (HT.out).put 5 5 (.pointer (some ⟨a, M, none⟩)) (by decide) rfl⟩
        · obtain rfl := Option.some.inj ho
          have e5 := hT.vals _ (List.Mem.tail _ (List.Mem.tail _ (List.Mem.tail _ (List.Mem.tail _ (List.Mem.tail _ (List.Mem.head _)))))) (hdep ⟨5, .data⟩ (by simp) rfl)
          dsimp only at e5
          subst e5
          have hS := hT.at0 6 hd (by decide)
          have l0 := hS.A.cell M hbd.out.1
          rw [V1.out] at l0
          have HT := Lib.hid hT
          clear hT hdep
          clear hS
          refine .inl ?_
          unfold Oper.wp
          go_simp
          exact (HI.out _ _ _).2 ⟨_, _, _, _, _, _, _, _, _, _, _, _, _, _, _, _, _, _, _, rfl, (HT.out).put 6 6 (.int .i64 x) (by decide) rfl⟩
        · obtain rfl := Option.some.inj ho
          have HT := Lib.hid hT
          clear hT hdep
          refine .inl ?_
          unfold Oper.wp
          go_simp
          exact (HI.out _ _ _).2 ⟨_, _, _, _, _, _, _, _, _, _, _, _, _, _, _, _, _, _, _, rfl, (HT.out).put 7 7 (.int .i64 (n : Nat)) (by decide) rfl⟩
        · obtain rfl := Option.some.inj ho
          have e7 := hT.vals _ (List.Mem.tail _ (List.Mem.tail _ (List.Mem.tail _ (List.Mem.tail _ (List.Mem.tail _ (List.Mem.tail _ (List.Mem.tail _ (List.Mem.head _)))))))) (hdep ⟨7, .data⟩ (by simp) rfl)
          dsimp only at e7
          subst e7
          have HT := Lib.hid hT
          clear hT hdep
          refine .inl ?_
          unfold Oper.wp
          go_simp
          exact (HI.out _ _ _).2 ⟨_, _, _, _, _, _, _, _, _, _, _, _, _, _, _, _, _, _, _, rfl, (HT.out).put 8 8 (.pointer (some ⟨b, n, none⟩)) (by decide) rfl⟩
        · obtain rfl := Option.some.inj ho
          have e8 := hT.vals _ (List.Mem.tail _ (List.Mem.tail _ (List.Mem.tail _ (List.Mem.tail _ (List.Mem.tail _ (List.Mem.tail _ (List.Mem.tail _ (List.Mem.tail _ (List.Mem.head _))))))))) (hdep ⟨8, .data⟩ (by simp) rfl)
          dsimp only at e8
          subst e8
          have hS := hT.at0 9 hd (by decide)
          have l0 := hS.B.cell n hbd.out.2
          rw [V2.out] at l0
          have HT := Lib.hid hT
          clear hT hdep
          clear hS
          refine .inl ?_
          unfold Oper.wp
          go_simp
          exact (HI.out _ _ _).2 ⟨_, _, _, _, _, _, _, _, _, _, _, _, _, _, _, _, _, _, _, rfl, (HT.out).put 9 9 (.int .i64 y) (by decide) rfl⟩
        · obtain rfl := Option.some.inj ho
          have HT := Lib.hid hT
          clear hT hdep
          refine .inl ?_
          unfold Oper.wp
          go_simp
          exact (HI.out _ _ _).2 ⟨_, _, _, _, _, _, _, _, _, _, _, _, _, _, _, _, _, _, _, rfl, (HT.out).put 10 10 (.int .i64 (n : Nat)) (by decide) rfl⟩
        · obtain rfl := Option.some.inj ho
          have e10 := hT.vals _ (List.Mem.tail _ (List.Mem.tail _ (List.Mem.tail _ (List.Mem.tail _ (List.Mem.tail _ (List.Mem.tail _ (List.Mem.tail _ (List.Mem.tail _ (List.Mem.tail _ (List.Mem.tail _ (List.Mem.head _))))))))))) (hdep ⟨10, .data⟩ (by simp) rfl)
          dsimp only at e10
          subst e10
          have HT := Lib.hid hT
          clear hT hdep
          refine .inl ?_
          unfold Oper.wp
          go_simp
          exact (HI.out _ _ _).2 ⟨_, _, _, _, _, _, _, _, _, _, _, _, _, _, _, _, _, _, _, rfl, (HT.out).put 11 11 (.int .i64 (Q4 : Nat)) (by decide) rfl⟩
        · obtain rfl := Option.some.inj ho
          have e11 := hT.vals _ (List.Mem.tail _ (List.Mem.tail _ (List.Mem.tail _ (List.Mem.tail _ (List.Mem.tail _ (List.Mem.tail _ (List.Mem.tail _ (List.Mem.tail _ (List.Mem.tail _ (List.Mem.tail _ (List.Mem.tail _ (List.Mem.head _)))))))))))) (hdep ⟨11, .data⟩ (by simp) rfl)
          dsimp only at e11
          subst e11
          have HT := Lib.hid hT
          clear hT hdep
          refine .inl ?_
          unfold Oper.wp
          go_simp
          exact (HI.out _ _ _).2 ⟨_, _, _, _, _, _, _, _, _, _, _, _, _, _, _, _, _, _, _, rfl, (HT.out).put 12 12 (.int .i64 K) (by decide) rfl⟩
        · obtain rfl := Option.some.inj ho
          have e6 := hT.vals _ (List.Mem.tail _ (List.Mem.tail _ (List.Mem.tail _ (List.Mem.tail _ (List.Mem.tail _ (List.Mem.tail _ (List.Mem.head _))))))) (hdep ⟨6, .data⟩ (by simp) rfl)
          dsimp only at e6
          subst e6
          have e9 := hT.vals _ (List.Mem.tail _ (List.Mem.tail _ (List.Mem.tail _ (List.Mem.tail _ (List.Mem.tail _ (List.Mem.tail _ (List.Mem.tail _ (List.Mem.tail _ (List.Mem.tail _ (List.Mem.head _)))))))))) (hdep ⟨9, .data⟩ (by simp) rfl)
          dsimp only at e9
          subst e9
          have e12 := hT.vals _ (List.Mem.tail _ (List.Mem.tail _ (List.Mem.tail _ (List.Mem.tail _ (List.Mem.tail _ (List.Mem.tail _ (List.Mem.tail _ (List.Mem.tail _ (List.Mem.tail _ (List.Mem.tail _ (List.Mem.tail _ (List.Mem.tail _ (List.Mem.head _))))))))))))) (hdep ⟨12, .data⟩ (by simp) rfl)
          dsimp only at e12
          subst e12
          have HT := Lib.hid hT
          clear hT hdep
          refine .inl ?_
          unfold Oper.wp
          go_simp
          (with_reducible refine (hq.out _).mono ?_); rintro e w1 ⟨rfl, hb1⟩
          exact (HI.out _ _ _).2 ⟨_, _, _, _, _, _, _, _, _, _, _, _, _, _, _, _, _, _, _, rfl, (HT.out.later (fun _ _ h hb => h.later hb) (fun _ _ h hb => h.later hb) (fun _ _ h hb => h.later hb) hb1).put 13 13 (.tuple #[.int .i64 X, .int .i64 Y]) (by decide) rfl⟩
        · obtain rfl := Option.some.inj ho
          have e13 := hT.vals _ (List.Mem.tail _ (List.Mem.tail _ (List.Mem.tail _ (List.Mem.tail _ (List.Mem.tail _ (List.Mem.tail _ (List.Mem.tail _ (List.Mem.tail _ (List.Mem.tail _ (List.Mem.tail _ (List.Mem.tail _ (List.Mem.tail _ (List.Mem.tail _ (List.Mem.head _)))))))))))))) (hdep ⟨13, .data⟩ (by simp) rfl)
          dsimp only at e13
          subst e13
          have HT := Lib.hid hT
          clear hT hdep
          refine .inl ?_
          unfold Oper.wp
          go_simp
          exact (HI.out _ _ _).2 ⟨_, _, _, _, _, _, _, _, _, _, _, _, _, _, _, _, _, _, _, rfl, (HT.out).put 14 14 (.tuple #[.int .i64 X, .int .i64 Y]) (by decide) rfl⟩
        · obtain rfl := Option.some.inj ho
          have e14 := hT.vals _ (List.Mem.tail _ (List.Mem.tail _ (List.Mem.tail _ (List.Mem.tail _ (List.Mem.tail _ (List.Mem.tail _ (List.Mem.tail _ (List.Mem.tail _ (List.Mem.tail _ (List.Mem.tail _ (List.Mem.tail _ (List.Mem.tail _ (List.Mem.tail _ (List.Mem.tail _ (List.Mem.head _))))))))))))))) (hdep ⟨14, .data⟩ (by simp) rfl)
          dsimp only at e14
          subst e14
          have HT := Lib.hid hT
          clear hT hdep
          refine .inl ?_
          unfold Oper.wp
          go_simp
          exact (HI.out _ _ _).2 ⟨_, _, _, _, _, _, _, _, _, _, _, _, _, _, _, _, _, _, _, rfl, (HT.out).put 15 15 (.int .i64 X) (by decide) rfl⟩
        · obtain rfl := Option.some.inj ho
          have e14 := hT.vals _ (List.Mem.tail _ (List.Mem.tail _ (List.Mem.tail _ (List.Mem.tail _ (List.Mem.tail _ (List.Mem.tail _ (List.Mem.tail _ (List.Mem.tail _ (List.Mem.tail _ (List.Mem.tail _ (List.Mem.tail _ (List.Mem.tail _ (List.Mem.tail _ (List.Mem.tail _ (List.Mem.head _))))))))))))))) (hdep ⟨14, .data⟩ (by simp) rfl)
          dsimp only at e14
          subst e14
          have HT := Lib.hid hT
          clear hT hdep
          refine .inl ?_
          unfold Oper.wp
          go_simp
          exact (HI.out _ _ _).2 ⟨_, _, _, _, _, _, _, _, _, _, _, _, _, _, _, _, _, _, _, rfl, (HT.out).put 16 16 (.int .i64 Y) (by decide) rfl⟩
        · obtain rfl := Option.some.inj ho
          have e1 := hT.vals _ (List.Mem.tail _ (List.Mem.head _)) (hdep ⟨1, .data⟩ (by simp) rfl)
          dsimp only at e1
          subst e1
          have HT := Lib.hid hT
          clear hT hdep
          refine .inl ?_
          unfold Oper.wp
          go_simp
          exact (HI.out _ _ _).2 ⟨_, _, _, _, _, _, _, _, _, _, _, _, _, _, _, _, _, _, _, rfl, (HT.out).put 17 17 (.pointer (some ⟨a, M, none⟩)) (by decide) rfl⟩
        · obtain rfl := Option.some.inj ho
          have e17 := hT.vals _ (List.Mem.tail _ (List.Mem.tail _ (List.Mem.tail _ (List.Mem.tail _ (List.Mem.tail _ (List.Mem.tail _ (List.Mem.tail _ (List.Mem.tail _ (List.Mem.tail _ (List.Mem.tail _ (List.Mem.tail _ (List.Mem.tail _ (List.Mem.tail _ (List.Mem.tail _ (List.Mem.tail _ (List.Mem.tail _ (List.Mem.tail _ (List.Mem.head _)))))))))))))))))) (hdep ⟨17, .data⟩ (by simp) rfl)
          dsimp only at e17
          subst e17
          have e15 := hT.vals _ (List.Mem.tail _ (List.Mem.tail _ (List.Mem.tail _ (List.Mem.tail _ (List.Mem.tail _ (List.Mem.tail _ (List.Mem.tail _ (List.Mem.tail _ (List.Mem.tail _ (List.Mem.tail _ (List.Mem.tail _ (List.Mem.tail _ (List.Mem.tail _ (List.Mem.tail _ (List.Mem.tail _ (List.Mem.head _)))))))))))))))) (hdep ⟨15, .data⟩ (by simp) rfl)
          dsimp only at e15
          subst e15
          have hpre : ∀ e ∈ [6, 9], dn e = true := by
            intro e he
            simp only [List.mem_cons, List.not_mem_nil, or_false] at he
            rcases he with rfl | rfl
            · exact hdep ⟨6, .phase⟩ (by simp) rfl
            · exact hdep ⟨9, .phase⟩ (by simp) rfl
          have hS := hT.at0 18 hd (by decide)
          have l0 := hS.A.cell M hbd.out.1
          have f0 := hS.A.free M
          have hnew := Lib.hid (hS.setA M X)
          have HT := Lib.hid hT
          clear hT hdep hS
          refine .inl ?_
          unfold Oper.wp
          go_simp
          exact (HI.out _ _ _).2 ⟨_, _, _, _, _, _, _, _, _, _, _, _, _, _, _, _, _, _, _, rfl, HT.out.fst hd (by decide) hpre rfl hnew.out⟩
        · obtain rfl := Option.some.inj ho
          have e2 := hT.vals _ (List.Mem.tail _ (List.Mem.tail _ (List.Mem.head _))) (hdep ⟨2, .data⟩ (by simp) rfl)
          dsimp only at e2
          subst e2
          have HT := Lib.hid hT
          clear hT hdep
          refine .inl ?_
          unfold Oper.wp
          go_simp
          exact (HI.out _ _ _).2 ⟨_, _, _, _, _, _, _, _, _, _, _, _, _, _, _, _, _, _, _, rfl, (HT.out).put 19 18 (.pointer (some ⟨b, n, none⟩)) (by decide) rfl⟩
        · obtain rfl := Option.some.inj ho
          have e19 := hT.vals _ (List.Mem.tail _ (List.Mem.tail _ (List.Mem.tail _ (List.Mem.tail _ (List.Mem.tail _ (List.Mem.tail _ (List.Mem.tail _ (List.Mem.tail _ (List.Mem.tail _ (List.Mem.tail _ (List.Mem.tail _ (List.Mem.tail _ (List.Mem.tail _ (List.Mem.tail _ (List.Mem.tail _ (List.Mem.tail _ (List.Mem.tail _ (List.Mem.tail _ (List.Mem.head _))))))))))))))))))) (hdep ⟨19, .data⟩ (by simp) rfl)
          dsimp only at e19
          subst e19
          have e16 := hT.vals _ (List.Mem.tail _ (List.Mem.tail _ (List.Mem.tail _ (List.Mem.tail _ (List.Mem.tail _ (List.Mem.tail _ (List.Mem.tail _ (List.Mem.tail _ (List.Mem.tail _ (List.Mem.tail _ (List.Mem.tail _ (List.Mem.tail _ (List.Mem.tail _ (List.Mem.tail _ (List.Mem.tail _ (List.Mem.tail _ (List.Mem.head _))))))))))))))))) (hdep ⟨16, .data⟩ (by simp) rfl)
          dsimp only at e16
          subst e16
          have hi1 := hdep ⟨18, .chain⟩ (by simp) rfl
          have hS := hT.at1 hd hi1
          have l0 := hS.B.cell n hbd.out.2
          have f0 := hS.B.free n
          have hnew := Lib.hid (hS.setB n Y)
          have HT := Lib.hid hT
          clear hT hdep hS
          refine .inl ?_
          unfold Oper.wp
          go_simp
          exact (HI.out _ _ _).2 ⟨_, _, _, _, _, _, _, _, _, _, _, _, _, _, _, _, _, _, _, rfl, HT.out.snd (by decide) hi1 rfl hnew.out⟩
        · cases ho
      · intro dn ac wc hd hIn
        obtain ⟨s10, s11, s12, s13, s14, s15, s16, s17, s18, s19, s20, s21, s22, s23, s24, s25, s26, s27, s28, rfl, hT⟩ := (HI.out _ _ _).1 hIn
        have hF := Lib.hid (hT.done (hd 20 (by decide)))
        clear HI hIn hT hd
        have hN := Lib.hid (hfin.out _ hF.out)
        clear hF hfin
        go_wp2
        go_roundw
        case rel => exact ⟨n + 1, by omega, by go_num, hN⟩
        case measure => simp [intOf]; omega
    · rw [show (n : Int) = 16 by omega]
      obtain rfl : n = 16 := by omega
      obtain ⟨FA, hFA⟩ : ∃ FA, FA = sA f g 16 := ⟨_, rfl⟩
      obtain ⟨GB, hGB⟩ : ∃ GB, GB = sB f g 16 := ⟨_, rfl⟩
      rw [← hFA, ← hGB] at hA
      have HFA := Lib.hid hFA
      have HGB := Lib.hid hGB
      have hold : Hid (∀ l : F, (iv 32 fun _ => 0).size = (iv 32 l).size) := fun l => by rw [iv_size, iv_size]
      clear hFA hGB
      go_upto_region 6 with (fail)
      obtain ⟨I, hI⟩ : ∃ I : (Nat → Bool) → Act → World → Prop, ∀ dn ac wc, I dn ac wc ↔ ∃ s30 s31, ac = ⟨#[Value.agg (iv 32 f), Value.agg (iv 32 g), Value.pointer (some { block := a, off := 0 }), Value.pointer (some { block := b, off := 0 }), Value.pointer (some { block := r1, off := 0 }), Value.pointer (some { block := r2, off := 0 }), u6, Value.int IntKind.i64 16, Value.bool false, u9, u10, u11, u12, u13, u14, u15, u16, u17, u18, u19, u20, u21, u22, u23, u24, u25, u26, u27, u28, u29, s30, s31], []⟩ ∧
        St2 wc dn [(0, .agg (iv 32 FA), s30), (1, .agg (iv 32 GB), s31)] (fun w' => Sw w w' a b r1 r2 FA GB (fun _ => 0) (fun _ => 0)) (fun w' => Sw w w' a b r1 r2 FA GB FA (fun _ => 0)) (fun w' => Sw w w' a b r1 r2 FA GB FA GB) 2 3 [0] := ⟨_, fun _ _ _ => Iff.rfl⟩
      have HI := Lib.hid hI
      clear hI
      refine wp_region_inv (by kernel_rfl) (by kernel_rfl) I ?_ ?_ ?_
      · exact (HI.out _ _ _).2 ⟨_, _, rfl, St2.start _ _ _ _ _ _ _ _ hA.out (fun _ _ h hb => h.later hb)⟩
      · intro i o dn ac wc ho hd hdep hIn
        obtain ⟨s30, s31, rfl, hT⟩ := (HI.out _ _ _).1 hIn
        clear hIn
        rcases i with _ | _ | _ | _ | i
        · obtain rfl := Option.some.inj ho
          have hS := hT.at0 0 hd (by decide)
          have HT := Lib.hid hT
          clear hT hdep
          refine .inl (wp_load_row 47 (.tmp 2) rfl a rfl 47 (iv 32 FA) (0, 0) _ hS.A Try.underlying47 rfl (HS4.out FA) ?_)
          exact (HI.out _ _ _).2 ⟨_, _, rfl, (HT.out).put 0 0 (.agg (iv 32 FA)) (by decide) rfl⟩
        · obtain rfl := Option.some.inj ho
          have hS := hT.any (fun w' => w'.heap[b]? = some (.cells (iv 32 GB) 47 (0, 0))) (fun _ h => h.B) (fun _ h => h.B) (fun _ h => h.B)
          have HT := Lib.hid hT
          clear hT hdep
          refine .inl (wp_load_row 47 (.tmp 3) rfl b rfl 47 (iv 32 GB) (0, 0) _ hS Try.underlying47 rfl (HS4.out GB) ?_)
          exact (HI.out _ _ _).2 ⟨_, _, rfl, (HT.out).put 1 1 (.agg (iv 32 GB)) (by decide) rfl⟩
        · obtain rfl := Option.some.inj ho
          have e0 := hT.vals _ (List.Mem.head _) (hdep ⟨0, .data⟩ (by simp) rfl)
          dsimp only at e0
          subst e0
          have hpre : ∀ e ∈ [0], dn e = true := by
            intro e he
            simp only [List.mem_cons, List.not_mem_nil, or_false] at he
            rcases he with rfl
            · exact hdep ⟨0, .phase⟩ (by simp) rfl
          have hS := hT.at0 2 hd (by decide)
          have hres := hS.R1
          unfold Blk at hres
          have hnew := Lib.hid (hS.put1 FA)
          have HT := Lib.hid hT
          clear hT hdep hS
          refine .inl (wp_store_row 47 (.tmp 4) (.tmp 30) rfl r1 (iv 32 FA) rfl rfl 47 _ hres (HS4.out FA) (hold.out FA) (iv_one 32 FA) ?_)
          exact (HI.out _ _ _).2 ⟨_, _, rfl, HT.out.fst hd (by decide) hpre rfl hnew.out⟩
        · obtain rfl := Option.some.inj ho
          have e1 := hT.vals _ (List.Mem.tail _ (List.Mem.head _)) (hdep ⟨1, .data⟩ (by simp) rfl)
          dsimp only at e1
          subst e1
          have hi1 := hdep ⟨2, .chain⟩ (by simp) rfl
          have hS := hT.at1 hd hi1
          have hres := hS.R2
          unfold Blk at hres
          have hnew := Lib.hid (hS.put2 GB)
          have HT := Lib.hid hT
          clear hT hdep hS
          refine .inl (wp_store_row 47 (.tmp 5) (.tmp 31) rfl r2 (iv 32 GB) rfl rfl 47 _ hres (HS4.out GB) (hold.out GB) (iv_one 32 GB) ?_)
          exact (HI.out _ _ _).2 ⟨_, _, rfl, HT.out.snd (by decide) hi1 rfl hnew.out⟩
        · cases ho
      · intro dn ac wc hd hIn
        obtain ⟨s30, s31, rfl, hT⟩ := (HI.out _ _ _).1 hIn
        have hF := Lib.hid (hT.done (hd 3 (by decide)))
        clear HI hIn hT hd
        have hb := Lib.hid hF.out.below
        have g1 := hF.out.R1
        have g2 := hF.out.R2
        unfold Blk at g1 g2
        go_wp2
        exact bodyPost_ret (v := .tuple #[.agg (iv 32 FA), .agg (iv 32 GB)]) (results_rows Try.results16 _ _ r1 r2 47 _ _ (0, 0) _ rfl rfl g1 g2 Try.underlying47 rfl (HS4.out FA) (HS4.out GB)) rfl ⟨by rw [HFA.out, HGB.out], hb.out⟩
namespace Ws
def uA (f g : F) (n : Nat) : F := fun c => if 31 - c < n then (bk (f c) (g (31 - c)) (62 - 4 * ((31 - c : Nat) : Int))).1 else f c
def uB (f g : F) (n : Nat) : F := fun c => if c < n then (bk (f (31 - c)) (g c) (62 - 4 * (c : Int))).2 else g c
end Ws
theorem uA_step (f g : F) (n : Nat) (hn : n < 16) : ∀ c, c < 32 → (if c = 31 - n then (bk (f (31 - n)) (g n) (62 - 4 * (n : Int))).1 else uA f g n c) = uA f g (n + 1) c := by
  intro c hc
  unfold uA
  by_cases h : c = 31 - n
  · rw [if_pos h, if_pos (by omega), h, show 31 - (31 - n) = n by omega]
  · rw [if_neg h]
    by_cases h2 : 31 - c < n
    · rw [if_pos h2, if_pos (by omega)]
    · rw [if_neg h2, if_neg (by omega)]
theorem uB_step (f g : F) (n : Nat) (hn : n < 16) : ∀ c, c < 32 → (if c = n then (bk (f (31 - n)) (g n) (62 - 4 * (n : Int))).2 else uB f g n c) = uB f g (n + 1) c := by
  intro c hc
  unfold uB
  by_cases h : c = n
  · rw [if_pos h, if_pos (by omega), h]
  · rw [if_neg h]
    by_cases h2 : c < n
    · rw [if_pos h2, if_pos (by omega)]
    · rw [if_neg h2, if_neg (by omega)]
set_option maxRecDepth 100000 in
set_option maxHeartbeats 6400000 in
theorem unseam_is (f g : F) (w : World) : Calls Try.prog 21 #[.agg (iv 32 f), .agg (iv 32 g)] w fun e w' => e = .returned (.tuple #[.agg (iv 32 (uA f g 16)), .agg (iv 32 (uB f g 16))]) ∧ Below w.heap.size w w' := by
  have hz := zero47
  obtain ⟨W, hWe, hV0⟩ := seam_start f g w
  have hV0 : Hid (Sw w W w.heap.size (w.heap.size + 1) (w.heap.size + 2) (w.heap.size + 3) (uA f g 0) (uB f g 0) (fun _ => 0) (fun _ => 0)) := hV0.congr (fun i _ => by unfold uA; rw [if_neg (by omega)]) fun i _ => by unfold uB; rw [if_neg (by omega)]
  have hWE := Lib.hid hWe
  have HS4 := Lib.hid fun f => size47 f
  clear hWe
  go_enter Try.func21, Try.ntmps21
  go_upto_region 1 with (fail)
  rw [← hWE.out]
  clear hWE
  obtain ⟨r2, hr2⟩ : ∃ r2, r2 = w.heap.size + 3 := ⟨_, rfl⟩
  obtain ⟨r1, hr1⟩ : ∃ r1, r1 = w.heap.size + 2 := ⟨_, rfl⟩
  obtain ⟨b, hb⟩ : ∃ b, b = w.heap.size + 1 := ⟨_, rfl⟩
  obtain ⟨a, ha⟩ : ∃ a, a = w.heap.size := ⟨_, rfl⟩
  rw [← hr2, ← hr1, ← hb, ← ha] at hV0
  first | rw [show w.heap.size + 1 + 1 + 1 = r2 by omega] | rw [← hr2]
  first | rw [show w.heap.size + 1 + 1 = r1 by omega] | rw [← hr1]
  first | rw [show w.heap.size + 1 = b by omega] | rw [← hb]
  rw [← ha]
  clear hr2 hr1 hb ha
  go_wp2
  go_loopw [7] (fun q wr => ∃ n : Nat, n ≤ 16 ∧ q = .int .i64 n ∧ Hid (Sw w wr a b r1 r2 (uA f g n) (uB f g n) (fun _ => 0) (fun _ => 0))) (fun q _ => 16 - (intOf q).toNat)
  case atStart => exact ⟨0, by omega, rfl, hV0⟩
  case round =>
    clear hV0
    obtain ⟨n, hn, rfl, hA⟩ := hrel
    obtain ⟨wo, rfl⟩ : ∃ wo : World, wo = wr := ⟨_, rfl⟩
    by_cases hlt : n < 16
    · have v1 : uA f g n (31 - n) = f (31 - n) := by unfold uA; rw [if_neg (by omega)]
      have v2 : uB f g n n = g n := by unfold uB; rw [if_neg (by omega)]
      have h1 := uA_step f g n hlt
      have h2 := uB_step f g n hlt
      obtain ⟨x, hx⟩ : ∃ x, f (31 - n) = x := ⟨_, rfl⟩
      obtain ⟨y, hy⟩ : ∃ y, g n = y := ⟨_, rfl⟩
      rw [hx] at v1
      rw [hy] at v2
      rw [hx, hy] at h1 h2
      obtain ⟨M, hM⟩ : ∃ M, M = 31 - n := ⟨_, rfl⟩
      obtain ⟨Q4, hQ4⟩ : ∃ Q4 : Nat, Q4 = 4 * n := ⟨_, rfl⟩
      obtain ⟨K, hK⟩ : ∃ K : Int, K = 62 - 4 * (n : Int) := ⟨_, rfl⟩
      rw [← hM] at v1 h1
      rw [← hK] at h1 h2
      have hq := fun w => back_is x y K w
      generalize (bk x y K).1 = X at *
      generalize (bk x y K).2 = Y at *
      have e1 : 31 - (n : Int) = (M : Int) := by omega
      have e2 : 4 * (n : Int) = (Q4 : Int) := by omega
      have e3 : 62 - (Q4 : Int) = K := by omega
      have ew1 : IntKind.i64.wrap (M : Int) = (M : Int) := by rw [IntKind.wrap_i64]; omega
      have ew2 : IntKind.i64.wrap (Q4 : Int) = (Q4 : Int) := by rw [IntKind.wrap_i64]; omega
      have ew3 : IntKind.i64.wrap K = K := by rw [IntKind.wrap_i64]; omega
      have hbI : (M : Int) < 32 ∧ (n : Int) < 32 := by omega
      obtain ⟨hb1, hb2⟩ := hbI
      have hnI : (n : Int) < 16 := by omega
      have hbd : Hid (M < 32 ∧ n < 32) := by show _ ∧ _; omega
      obtain ⟨fa, hfa⟩ : ∃ fa, fa = uA f g n := ⟨_, rfl⟩
      obtain ⟨gb, hgb⟩ : ∃ gb, gb = uB f g n := ⟨_, rfl⟩
      rw [← hfa] at v1 h1 hA
      rw [← hgb] at v2 h2 hA
      have hfin : Hid (∀ W6, Sw w W6 a b r1 r2 (fun m => if m = M then X else fa m) (fun m => if m = n then Y else gb m) (fun _ => 0) (fun _ => 0) → Sw w W6 a b r1 r2 (uA f g (n + 1)) (uB f g (n + 1)) (fun _ => 0) (fun _ => 0)) := fun W6 h6 => h6.congr (fun i hi => h1 i hi) fun i hi => h2 i hi
      have hq := Lib.hid hq
      have V1 := Lib.hid v1
      have V2 := Lib.hid v2
      clear hx hy hM hQ4 hK hfa hgb v1 v2 h1 h2
      go_upto_region 4 with (fail)
      obtain ⟨I, hI⟩ : ∃ I : (Nat → Bool) → Act → World → Prop, ∀ dn ac wc, I dn ac wc ↔ ∃ s10 s11 s12 s13 s14 s15 s16 s17 s18 s19 s20 s21 s22 s23 s24 s25 s26 s27 s28, ac = ⟨#[Value.agg (iv 32 f), Value.agg (iv 32 g), Value.pointer (some { block := a, off := 0 }), Value.pointer (some { block := b, off := 0 }), Value.pointer (some { block := r1, off := 0 }), Value.pointer (some { block := r2, off := 0 }), Value.int IntKind.i64 ↑n, Value.int IntKind.i64 ↑n, .bool true, Value.int IntKind.i64 ↑n, s10, s11, s12, s13, s14, s15, s16, s17, s18, s19, s20, s21, s22, s23, s24, s25, s26, s27, s28, u29, undef, undef], []⟩ ∧
        St2 wc dn [(0, .int .i64 (n : Nat), s11), (1, .int .i64 (M : Nat), s12), (2, .int .i64 (n : Nat), s13), (3, .int .i64 (n : Nat), s14), (4, .int .i64 (M : Nat), s15), (5, .pointer (some ⟨a, M, none⟩), s16), (6, .int .i64 x, s17), (7, .int .i64 (n : Nat), s18), (8, .pointer (some ⟨b, n, none⟩), s19), (9, .int .i64 y, s20), (10, .int .i64 (n : Nat), s21), (11, .int .i64 (Q4 : Nat), s22), (12, .int .i64 K, s23), (13, .tuple #[.int .i64 X, .int .i64 Y], s24), (14, .tuple #[.int .i64 X, .int .i64 Y], s10), (15, .int .i64 X, s25), (16, .int .i64 Y, s26), (17, .pointer (some ⟨a, M, none⟩), s27), (19, .pointer (some ⟨b, n, none⟩), s28)] (fun w' => Sw w w' a b r1 r2 fa gb (fun _ => 0) (fun _ => 0)) (fun w' => Sw w w' a b r1 r2 (fun m => if m = M then X else fa m) gb (fun _ => 0) (fun _ => 0)) (fun w' => Sw w w' a b r1 r2 (fun m => if m = M then X else fa m) (fun m => if m = n then Y else gb m) (fun _ => 0) (fun _ => 0)) 18 20 [6, 9] := ⟨_, fun _ _ _ => Iff.rfl⟩
      have HI := Lib.hid hI
      clear hI
      refine wp_region_inv (by kernel_rfl) (by kernel_rfl) I ?_ ?_ ?_
      · exact (HI.out _ _ _).2 ⟨_, _, _, _, _, _, _, _, _, _, _, _, _, _, _, _, _, _, _, rfl, St2.start _ _ _ _ _ _ _ _ hA.out (fun _ _ h hb => h.later hb)⟩
      · intro i o dn ac wc ho hd hdep hIn
        obtain ⟨s10, s11, s12, s13, s14, s15, s16, s17, s18, s19, s20, s21, s22, s23, s24, s25, s26, s27, s28, rfl, hT⟩ := (HI.out _ _ _).1 hIn
        clear hIn
        rcases i with _ | _ | _ | _ | _ | _ | _ | _ | _ | _ | _ | _ | _ | _ | _ | _ | _ | _ | _ | _ | _ | i
        · obtain rfl := Option.some.inj ho
          have HT := Lib.hid hT
          clear hT hdep
          refine .inl ?_
          unfold Oper.wp
          go_simp
          exact (HI.out _ _ _).2 ⟨_, _, _, _, _, _, _, _, _, _, _, _, _, _, _, _, _, _, _, rfl, (HT.out).put 0 0 (.int .i64 (n : Nat)) (by decide) rfl⟩
        · obtain rfl := Option.some.inj ho
          have e0 := hT.vals _ (List.Mem.head _) (hdep ⟨0, .data⟩ (by simp) rfl)
          dsimp only at e0
          subst e0
          have HT := Lib.hid hT
          clear hT hdep
          refine .inl ?_
          unfold Oper.wp
          go_simp
          exact (HI.out _ _ _).2 ⟨_, _, _, _, _, _, _, _, _, _, _, _, _, _, _, _, _, _, _, rfl, (HT.out).put 1 1 (.int .i64 (M : Nat)) (by decide) rfl⟩
        · obtain rfl := Option.some.inj ho
          have HT := Lib.hid hT
          clear hT hdep
          refine .inl ?_
          unfold Oper.wp
          go_simp
          exact (HI.out _ _ _).2 ⟨_, _, _, _, _, _, _, _, _, _, _, _, _, _, _, _, _, _, _, rfl, (HT.out).put 2 2 (.int .i64 (n : Nat)) (by decide) rfl⟩
        · obtain rfl := Option.some.inj ho
          have HT := Lib.hid hT
          clear hT hdep
          refine .inl ?_
          unfold Oper.wp
          go_simp
          exact (HI.out _ _ _).2 ⟨_, _, _, _, _, _, _, _, _, _, _, _, _, _, _, _, _, _, _, rfl, (HT.out).put 3 3 (.int .i64 (n : Nat)) (by decide) rfl⟩
        · obtain rfl := Option.some.inj ho
          have e3 := hT.vals _ (List.Mem.tail _ (List.Mem.tail _ (List.Mem.tail _ (List.Mem.head _)))) (hdep ⟨3, .data⟩ (by simp) rfl)
          dsimp only at e3
          subst e3
          have HT := Lib.hid hT
          clear hT hdep
          refine .inl ?_
          unfold Oper.wp
          go_simp
          exact (HI.out _ _ _).2 ⟨_, _, _, _, _, _, _, _, _, _, _, _, _, _, _, _, _, _, _, rfl, (HT.out).put 4 4 (.int .i64 (M : Nat)) (by decide) rfl⟩
        · obtain rfl := Option.some.inj ho
          have e4 := hT.vals _ (List.Mem.tail _ (List.Mem.tail _ (List.Mem.tail _ (List.Mem.tail _ (List.Mem.head _))))) (hdep ⟨4, .data⟩ (by simp) rfl)
          dsimp only at e4
          subst e4
          have HT := Lib.hid hT
          clear hT hdep
          refine .inl ?_
          unfold Oper.wp
          go_simp
          exact (HI.out _ _ _).2 ⟨_, _, _, _, _, _, _, _, _, _, _, _, _, _, _, _, _, _, _, rfl, (HT.out).put 5 5 (.pointer (some ⟨a, M, none⟩)) (by decide) rfl⟩
        · obtain rfl := Option.some.inj ho
          have e5 := hT.vals _ (List.Mem.tail _ (List.Mem.tail _ (List.Mem.tail _ (List.Mem.tail _ (List.Mem.tail _ (List.Mem.head _)))))) (hdep ⟨5, .data⟩ (by simp) rfl)
          dsimp only at e5
          subst e5
          have hS := hT.at0 6 hd (by decide)
          have l0 := hS.A.cell M hbd.out.1
          rw [V1.out] at l0
          have HT := Lib.hid hT
          clear hT hdep
          clear hS
          refine .inl ?_
          unfold Oper.wp
          go_simp
          exact (HI.out _ _ _).2 ⟨_, _, _, _, _, _, _, _, _, _, _, _, _, _, _, _, _, _, _, rfl, (HT.out).put 6 6 (.int .i64 x) (by decide) rfl⟩
        · obtain rfl := Option.some.inj ho
          have HT := Lib.hid hT
          clear hT hdep
          refine .inl ?_
          unfold Oper.wp
          go_simp
          exact (HI.out _ _ _).2 ⟨_, _, _, _, _, _, _, _, _, _, _, _, _, _, _, _, _, _, _, rfl, (HT.out).put 7 7 (.int .i64 (n : Nat)) (by decide) rfl⟩
        · obtain rfl := Option.some.inj ho
          have e7 := hT.vals _ (List.Mem.tail _ (List.Mem.tail _ (List.Mem.tail _ (List.Mem.tail _ (List.Mem.tail _ (List.Mem.tail _ (List.Mem.tail _ (List.Mem.head _)))))))) (hdep ⟨7, .data⟩ (by simp) rfl)
          dsimp only at e7
          subst e7
          have HT := Lib.hid hT
          clear hT hdep
          refine .inl ?_
          unfold Oper.wp
          go_simp
          exact (HI.out _ _ _).2 ⟨_, _, _, _, _, _, _, _, _, _, _, _, _, _, _, _, _, _, _, rfl, (HT.out).put 8 8 (.pointer (some ⟨b, n, none⟩)) (by decide) rfl⟩
        · obtain rfl := Option.some.inj ho
          have e8 := hT.vals _ (List.Mem.tail _ (List.Mem.tail _ (List.Mem.tail _ (List.Mem.tail _ (List.Mem.tail _ (List.Mem.tail _ (List.Mem.tail _ (List.Mem.tail _ (List.Mem.head _))))))))) (hdep ⟨8, .data⟩ (by simp) rfl)
          dsimp only at e8
          subst e8
          have hS := hT.at0 9 hd (by decide)
          have l0 := hS.B.cell n hbd.out.2
          rw [V2.out] at l0
          have HT := Lib.hid hT
          clear hT hdep
          clear hS
          refine .inl ?_
          unfold Oper.wp
          go_simp
          exact (HI.out _ _ _).2 ⟨_, _, _, _, _, _, _, _, _, _, _, _, _, _, _, _, _, _, _, rfl, (HT.out).put 9 9 (.int .i64 y) (by decide) rfl⟩
        · obtain rfl := Option.some.inj ho
          have HT := Lib.hid hT
          clear hT hdep
          refine .inl ?_
          unfold Oper.wp
          go_simp
          exact (HI.out _ _ _).2 ⟨_, _, _, _, _, _, _, _, _, _, _, _, _, _, _, _, _, _, _, rfl, (HT.out).put 10 10 (.int .i64 (n : Nat)) (by decide) rfl⟩
        · obtain rfl := Option.some.inj ho
          have e10 := hT.vals _ (List.Mem.tail _ (List.Mem.tail _ (List.Mem.tail _ (List.Mem.tail _ (List.Mem.tail _ (List.Mem.tail _ (List.Mem.tail _ (List.Mem.tail _ (List.Mem.tail _ (List.Mem.tail _ (List.Mem.head _))))))))))) (hdep ⟨10, .data⟩ (by simp) rfl)
          dsimp only at e10
          subst e10
          have HT := Lib.hid hT
          clear hT hdep
          refine .inl ?_
          unfold Oper.wp
          go_simp
          exact (HI.out _ _ _).2 ⟨_, _, _, _, _, _, _, _, _, _, _, _, _, _, _, _, _, _, _, rfl, (HT.out).put 11 11 (.int .i64 (Q4 : Nat)) (by decide) rfl⟩
        · obtain rfl := Option.some.inj ho
          have e11 := hT.vals _ (List.Mem.tail _ (List.Mem.tail _ (List.Mem.tail _ (List.Mem.tail _ (List.Mem.tail _ (List.Mem.tail _ (List.Mem.tail _ (List.Mem.tail _ (List.Mem.tail _ (List.Mem.tail _ (List.Mem.tail _ (List.Mem.head _)))))))))))) (hdep ⟨11, .data⟩ (by simp) rfl)
          dsimp only at e11
          subst e11
          have HT := Lib.hid hT
          clear hT hdep
          refine .inl ?_
          unfold Oper.wp
          go_simp
          exact (HI.out _ _ _).2 ⟨_, _, _, _, _, _, _, _, _, _, _, _, _, _, _, _, _, _, _, rfl, (HT.out).put 12 12 (.int .i64 K) (by decide) rfl⟩
        · obtain rfl := Option.some.inj ho
          have e6 := hT.vals _ (List.Mem.tail _ (List.Mem.tail _ (List.Mem.tail _ (List.Mem.tail _ (List.Mem.tail _ (List.Mem.tail _ (List.Mem.head _))))))) (hdep ⟨6, .data⟩ (by simp) rfl)
          dsimp only at e6
          subst e6
          have e9 := hT.vals _ (List.Mem.tail _ (List.Mem.tail _ (List.Mem.tail _ (List.Mem.tail _ (List.Mem.tail _ (List.Mem.tail _ (List.Mem.tail _ (List.Mem.tail _ (List.Mem.tail _ (List.Mem.head _)))))))))) (hdep ⟨9, .data⟩ (by simp) rfl)
          dsimp only at e9
          subst e9
          have e12 := hT.vals _ (List.Mem.tail _ (List.Mem.tail _ (List.Mem.tail _ (List.Mem.tail _ (List.Mem.tail _ (List.Mem.tail _ (List.Mem.tail _ (List.Mem.tail _ (List.Mem.tail _ (List.Mem.tail _ (List.Mem.tail _ (List.Mem.tail _ (List.Mem.head _))))))))))))) (hdep ⟨12, .data⟩ (by simp) rfl)
          dsimp only at e12
          subst e12
          have HT := Lib.hid hT
          clear hT hdep
          refine .inl ?_
          unfold Oper.wp
          go_simp
          (with_reducible refine (hq.out _).mono ?_); rintro e w1 ⟨rfl, hb1⟩
          exact (HI.out _ _ _).2 ⟨_, _, _, _, _, _, _, _, _, _, _, _, _, _, _, _, _, _, _, rfl, (HT.out.later (fun _ _ h hb => h.later hb) (fun _ _ h hb => h.later hb) (fun _ _ h hb => h.later hb) hb1).put 13 13 (.tuple #[.int .i64 X, .int .i64 Y]) (by decide) rfl⟩
        · obtain rfl := Option.some.inj ho
          have e13 := hT.vals _ (List.Mem.tail _ (List.Mem.tail _ (List.Mem.tail _ (List.Mem.tail _ (List.Mem.tail _ (List.Mem.tail _ (List.Mem.tail _ (List.Mem.tail _ (List.Mem.tail _ (List.Mem.tail _ (List.Mem.tail _ (List.Mem.tail _ (List.Mem.tail _ (List.Mem.head _)))))))))))))) (hdep ⟨13, .data⟩ (by simp) rfl)
          dsimp only at e13
          subst e13
          have HT := Lib.hid hT
          clear hT hdep
          refine .inl ?_
          unfold Oper.wp
          go_simp
          exact (HI.out _ _ _).2 ⟨_, _, _, _, _, _, _, _, _, _, _, _, _, _, _, _, _, _, _, rfl, (HT.out).put 14 14 (.tuple #[.int .i64 X, .int .i64 Y]) (by decide) rfl⟩
        · obtain rfl := Option.some.inj ho
          have e14 := hT.vals _ (List.Mem.tail _ (List.Mem.tail _ (List.Mem.tail _ (List.Mem.tail _ (List.Mem.tail _ (List.Mem.tail _ (List.Mem.tail _ (List.Mem.tail _ (List.Mem.tail _ (List.Mem.tail _ (List.Mem.tail _ (List.Mem.tail _ (List.Mem.tail _ (List.Mem.tail _ (List.Mem.head _))))))))))))))) (hdep ⟨14, .data⟩ (by simp) rfl)
          dsimp only at e14
          subst e14
          have HT := Lib.hid hT
          clear hT hdep
          refine .inl ?_
          unfold Oper.wp
          go_simp
          exact (HI.out _ _ _).2 ⟨_, _, _, _, _, _, _, _, _, _, _, _, _, _, _, _, _, _, _, rfl, (HT.out).put 15 15 (.int .i64 X) (by decide) rfl⟩
        · obtain rfl := Option.some.inj ho
          have e14 := hT.vals _ (List.Mem.tail _ (List.Mem.tail _ (List.Mem.tail _ (List.Mem.tail _ (List.Mem.tail _ (List.Mem.tail _ (List.Mem.tail _ (List.Mem.tail _ (List.Mem.tail _ (List.Mem.tail _ (List.Mem.tail _ (List.Mem.tail _ (List.Mem.tail _ (List.Mem.tail _ (List.Mem.head _))))))))))))))) (hdep ⟨14, .data⟩ (by simp) rfl)
          dsimp only at e14
          subst e14
          have HT := Lib.hid hT
          clear hT hdep
          refine .inl ?_
          unfold Oper.wp
          go_simp
          exact (HI.out _ _ _).2 ⟨_, _, _, _, _, _, _, _, _, _, _, _, _, _, _, _, _, _, _, rfl, (HT.out).put 16 16 (.int .i64 Y) (by decide) rfl⟩
        · obtain rfl := Option.some.inj ho
          have e1 := hT.vals _ (List.Mem.tail _ (List.Mem.head _)) (hdep ⟨1, .data⟩ (by simp) rfl)
          dsimp only at e1
          subst e1
          have HT := Lib.hid hT
          clear hT hdep
          refine .inl ?_
          unfold Oper.wp
          go_simp
          exact (HI.out _ _ _).2 ⟨_, _, _, _, _, _, _, _, _, _, _, _, _, _, _, _, _, _, _, rfl, (HT.out).put 17 17 (.pointer (some ⟨a, M, none⟩)) (by decide) rfl⟩
        · obtain rfl := Option.some.inj ho
          have e17 := hT.vals _ (List.Mem.tail _ (List.Mem.tail _ (List.Mem.tail _ (List.Mem.tail _ (List.Mem.tail _ (List.Mem.tail _ (List.Mem.tail _ (List.Mem.tail _ (List.Mem.tail _ (List.Mem.tail _ (List.Mem.tail _ (List.Mem.tail _ (List.Mem.tail _ (List.Mem.tail _ (List.Mem.tail _ (List.Mem.tail _ (List.Mem.tail _ (List.Mem.head _)))))))))))))))))) (hdep ⟨17, .data⟩ (by simp) rfl)
          dsimp only at e17
          subst e17
          have e15 := hT.vals _ (List.Mem.tail _ (List.Mem.tail _ (List.Mem.tail _ (List.Mem.tail _ (List.Mem.tail _ (List.Mem.tail _ (List.Mem.tail _ (List.Mem.tail _ (List.Mem.tail _ (List.Mem.tail _ (List.Mem.tail _ (List.Mem.tail _ (List.Mem.tail _ (List.Mem.tail _ (List.Mem.tail _ (List.Mem.head _)))))))))))))))) (hdep ⟨15, .data⟩ (by simp) rfl)
          dsimp only at e15
          subst e15
          have hpre : ∀ e ∈ [6, 9], dn e = true := by
            intro e he
            simp only [List.mem_cons, List.not_mem_nil, or_false] at he
            rcases he with rfl | rfl
            · exact hdep ⟨6, .phase⟩ (by simp) rfl
            · exact hdep ⟨9, .phase⟩ (by simp) rfl
          have hS := hT.at0 18 hd (by decide)
          have l0 := hS.A.cell M hbd.out.1
          have f0 := hS.A.free M
          have hnew := Lib.hid (hS.setA M X)
          have HT := Lib.hid hT
          clear hT hdep hS
          refine .inl ?_
          unfold Oper.wp
          go_simp
          exact (HI.out _ _ _).2 ⟨_, _, _, _, _, _, _, _, _, _, _, _, _, _, _, _, _, _, _, rfl, HT.out.fst hd (by decide) hpre rfl hnew.out⟩
        · obtain rfl := Option.some.inj ho
          have e2 := hT.vals _ (List.Mem.tail _ (List.Mem.tail _ (List.Mem.head _))) (hdep ⟨2, .data⟩ (by simp) rfl)
          dsimp only at e2
          subst e2
          have HT := Lib.hid hT
          clear hT hdep
          refine .inl ?_
          unfold Oper.wp
          go_simp
          exact (HI.out _ _ _).2 ⟨_, _, _, _, _, _, _, _, _, _, _, _, _, _, _, _, _, _, _, rfl, (HT.out).put 19 18 (.pointer (some ⟨b, n, none⟩)) (by decide) rfl⟩
        · obtain rfl := Option.some.inj ho
          have e19 := hT.vals _ (List.Mem.tail _ (List.Mem.tail _ (List.Mem.tail _ (List.Mem.tail _ (List.Mem.tail _ (List.Mem.tail _ (List.Mem.tail _ (List.Mem.tail _ (List.Mem.tail _ (List.Mem.tail _ (List.Mem.tail _ (List.Mem.tail _ (List.Mem.tail _ (List.Mem.tail _ (List.Mem.tail _ (List.Mem.tail _ (List.Mem.tail _ (List.Mem.tail _ (List.Mem.head _))))))))))))))))))) (hdep ⟨19, .data⟩ (by simp) rfl)
          dsimp only at e19
          subst e19
          have e16 := hT.vals _ (List.Mem.tail _ (List.Mem.tail _ (List.Mem.tail _ (List.Mem.tail _ (List.Mem.tail _ (List.Mem.tail _ (List.Mem.tail _ (List.Mem.tail _ (List.Mem.tail _ (List.Mem.tail _ (List.Mem.tail _ (List.Mem.tail _ (List.Mem.tail _ (List.Mem.tail _ (List.Mem.tail _ (List.Mem.tail _ (List.Mem.head _))))))))))))))))) (hdep ⟨16, .data⟩ (by simp) rfl)
          dsimp only at e16
          subst e16
          have hi1 := hdep ⟨18, .chain⟩ (by simp) rfl
          have hS := hT.at1 hd hi1
          have l0 := hS.B.cell n hbd.out.2
          have f0 := hS.B.free n
          have hnew := Lib.hid (hS.setB n Y)
          have HT := Lib.hid hT
          clear hT hdep hS
          refine .inl ?_
          unfold Oper.wp
          go_simp
          exact (HI.out _ _ _).2 ⟨_, _, _, _, _, _, _, _, _, _, _, _, _, _, _, _, _, _, _, rfl, HT.out.snd (by decide) hi1 rfl hnew.out⟩
        · cases ho
      · intro dn ac wc hd hIn
        obtain ⟨s10, s11, s12, s13, s14, s15, s16, s17, s18, s19, s20, s21, s22, s23, s24, s25, s26, s27, s28, rfl, hT⟩ := (HI.out _ _ _).1 hIn
        have hF := Lib.hid (hT.done (hd 20 (by decide)))
        clear HI hIn hT hd
        have hN := Lib.hid (hfin.out _ hF.out)
        clear hF hfin
        go_wp2
        go_roundw
        case rel => exact ⟨n + 1, by omega, by go_num, hN⟩
        case measure => simp [intOf]; omega
    · rw [show (n : Int) = 16 by omega]
      obtain rfl : n = 16 := by omega
      obtain ⟨FA, hFA⟩ : ∃ FA, FA = uA f g 16 := ⟨_, rfl⟩
      obtain ⟨GB, hGB⟩ : ∃ GB, GB = uB f g 16 := ⟨_, rfl⟩
      rw [← hFA, ← hGB] at hA
      have HFA := Lib.hid hFA
      have HGB := Lib.hid hGB
      have hold : Hid (∀ l : F, (iv 32 fun _ => 0).size = (iv 32 l).size) := fun l => by rw [iv_size, iv_size]
      clear hFA hGB
      go_upto_region 6 with (fail)
      obtain ⟨I, hI⟩ : ∃ I : (Nat → Bool) → Act → World → Prop, ∀ dn ac wc, I dn ac wc ↔ ∃ s30 s31, ac = ⟨#[Value.agg (iv 32 f), Value.agg (iv 32 g), Value.pointer (some { block := a, off := 0 }), Value.pointer (some { block := b, off := 0 }), Value.pointer (some { block := r1, off := 0 }), Value.pointer (some { block := r2, off := 0 }), u6, Value.int IntKind.i64 16, Value.bool false, u9, u10, u11, u12, u13, u14, u15, u16, u17, u18, u19, u20, u21, u22, u23, u24, u25, u26, u27, u28, u29, s30, s31], []⟩ ∧
        St2 wc dn [(0, .agg (iv 32 FA), s30), (1, .agg (iv 32 GB), s31)] (fun w' => Sw w w' a b r1 r2 FA GB (fun _ => 0) (fun _ => 0)) (fun w' => Sw w w' a b r1 r2 FA GB FA (fun _ => 0)) (fun w' => Sw w w' a b r1 r2 FA GB FA GB) 2 3 [0] := ⟨_, fun _ _ _ => Iff.rfl⟩
      have HI := Lib.hid hI
      clear hI
      refine wp_region_inv (by kernel_rfl) (by kernel_rfl) I ?_ ?_ ?_
      · exact (HI.out _ _ _).2 ⟨_, _, rfl, St2.start _ _ _ _ _ _ _ _ hA.out (fun _ _ h hb => h.later hb)⟩
      · intro i o dn ac wc ho hd hdep hIn
        obtain ⟨s30, s31, rfl, hT⟩ := (HI.out _ _ _).1 hIn
        clear hIn
        rcases i with _ | _ | _ | _ | i
        · obtain rfl := Option.some.inj ho
          have hS := hT.at0 0 hd (by decide)
          have HT := Lib.hid hT
          clear hT hdep
          refine .inl (wp_load_row 47 (.tmp 2) rfl a rfl 47 (iv 32 FA) (0, 0) _ hS.A Try.underlying47 rfl (HS4.out FA) ?_)
          exact (HI.out _ _ _).2 ⟨_, _, rfl, (HT.out).put 0 0 (.agg (iv 32 FA)) (by decide) rfl⟩
        · obtain rfl := Option.some.inj ho
          have hS := hT.any (fun w' => w'.heap[b]? = some (.cells (iv 32 GB) 47 (0, 0))) (fun _ h => h.B) (fun _ h => h.B) (fun _ h => h.B)
          have HT := Lib.hid hT
          clear hT hdep
          refine .inl (wp_load_row 47 (.tmp 3) rfl b rfl 47 (iv 32 GB) (0, 0) _ hS Try.underlying47 rfl (HS4.out GB) ?_)
          exact (HI.out _ _ _).2 ⟨_, _, rfl, (HT.out).put 1 1 (.agg (iv 32 GB)) (by decide) rfl⟩
        · obtain rfl := Option.some.inj ho
          have e0 := hT.vals _ (List.Mem.head _) (hdep ⟨0, .data⟩ (by simp) rfl)
          dsimp only at e0
          subst e0
          have hpre : ∀ e ∈ [0], dn e = true := by
            intro e he
            simp only [List.mem_cons, List.not_mem_nil, or_false] at he
            rcases he with rfl
            · exact hdep ⟨0, .phase⟩ (by simp) rfl
          have hS := hT.at0 2 hd (by decide)
          have hres := hS.R1
          unfold Blk at hres
          have hnew := Lib.hid (hS.put1 FA)
          have HT := Lib.hid hT
          clear hT hdep hS
          refine .inl (wp_store_row 47 (.tmp 4) (.tmp 30) rfl r1 (iv 32 FA) rfl rfl 47 _ hres (HS4.out FA) (hold.out FA) (iv_one 32 FA) ?_)
          exact (HI.out _ _ _).2 ⟨_, _, rfl, HT.out.fst hd (by decide) hpre rfl hnew.out⟩
        · obtain rfl := Option.some.inj ho
          have e1 := hT.vals _ (List.Mem.tail _ (List.Mem.head _)) (hdep ⟨1, .data⟩ (by simp) rfl)
          dsimp only at e1
          subst e1
          have hi1 := hdep ⟨2, .chain⟩ (by simp) rfl
          have hS := hT.at1 hd hi1
          have hres := hS.R2
          unfold Blk at hres
          have hnew := Lib.hid (hS.put2 GB)
          have HT := Lib.hid hT
          clear hT hdep hS
          refine .inl (wp_store_row 47 (.tmp 5) (.tmp 31) rfl r2 (iv 32 GB) rfl rfl 47 _ hres (HS4.out GB) (hold.out GB) (iv_one 32 GB) ?_)
          exact (HI.out _ _ _).2 ⟨_, _, rfl, HT.out.snd (by decide) hi1 rfl hnew.out⟩
        · cases ho
      · intro dn ac wc hd hIn
        obtain ⟨s30, s31, rfl, hT⟩ := (HI.out _ _ _).1 hIn
        have hF := Lib.hid (hT.done (hd 3 (by decide)))
        clear HI hIn hT hd
        have hb := Lib.hid hF.out.below
        have g1 := hF.out.R1
        have g2 := hF.out.R2
        unfold Blk at g1 g2
        go_wp2
        exact bodyPost_ret (v := .tuple #[.agg (iv 32 FA), .agg (iv 32 GB)]) (results_rows Try.results21 _ _ r1 r2 47 _ _ (0, 0) _ rfl rfl g1 g2 Try.underlying47 rfl (HS4.out FA) (HS4.out GB)) rfl ⟨by rw [HFA.out, HGB.out], hb.out⟩
end Go.Proofs.Ythoemgiadadfcaa
