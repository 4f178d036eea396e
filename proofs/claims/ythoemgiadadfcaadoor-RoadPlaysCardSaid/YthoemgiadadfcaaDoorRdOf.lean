/- A thing put behind a row of things; the acts as the program has them: their walks. -/
import Derived.Test.YthoemgiadadfcaaDoorRdFew
import Derived.Test.YthoemgiadadfcaaDoorRegC
set_option linter.unusedVariables false
set_option linter.unusedSimpArgs false
namespace Go.Proofs.YthoemgiadadfcaaDoor
open Go.RowKit Go.Sort Rd
section
variable {P : Program} {ops : Array Oper} {rest : List Oper} {o : Oper} {a : Act} {Q : Exit → Act → World → Prop}
/-- append(v, y): behind the box of y. -/
theorem append_k {α : Type} {W : World} (hgd : o.guard = none) (s x : Operand) (t e : TypeId) (k bytes : Nat) (enc : α → List Value) (hk : ∀ x, (enc x).length = k) (z : Value) (hz : z.cells.size = k) (hk0 : 0 < k)
    (ho : o.op = .call { callee := .builtin .append, args := #[s, x], argTypes := #[t, t] })
    (ht : P.underlying t = some (.slice e)) (hinfo : (P.info? e).map (fun i => (i.zero, i.size, i.bytes)) = some (some z, k, bytes)) (hb0 : 0 < bytes)
    (v : Value) (xs : List α) (y : α) (cs : Array Value) (hcs : cs.toList = enc y) (h1 : ∀ u ∈ enc y, u.oneCell' = true) (hs : a.eval s = v) (hx : a.eval x = .slice (some ⟨W.heap.size, 0, none⟩) 1 1)
    (HO : Rw W e k enc v xs) (hl : (xs.length + 1) * bytes ≤ 140737488355328)
    (h : ∀ g cap w1, Rw w1 e k enc (.slice (some ⟨g, 0, none⟩) (xs ++ [y]).length cap) (xs ++ [y]) → Keep W w1 (foot v) → (g ∈ foot v ∨ W.heap.size ≤ g) → wpList P ops Q rest (a.put o.dst (.slice (some ⟨g, 0, none⟩) (xs ++ [y]).length cap)) w1) :
    wpList P ops Q (o :: rest) a (W.alloc (.cells cs e)) := by
  obtain ⟨i0, hi, hzz⟩ := Option.map_eq_some_iff.1 hinfo
  simp only [Prod.mk.injEq] at hzz
  obtain ⟨hz0, hz1, hz2⟩ := hzz
  have hlen : xs.length + 1 ≤ 140737488355328 := Nat.le_trans (Nat.le_mul_of_pos_right _ hb0) hl
  refine wpList_append_own_at (W.alloc (.cells cs e)) hgd s x t ho 0 e i0 z k bytes ht hi hz0 hz1 hz2 hz hk0 v xs.length (xs.flatMap enc) hs (World.ownsRow.alloc HO _) ⟨W.heap.size, 0, none⟩ 1 1 (enc y) hx (by rw [hk, Nat.one_mul])
    (by rw [← hcs]; exact World.news_of_block (cs := cs) (t := e) (fr := (0, 0)) (heap_alloc_new W _)) h1 (by simp only [maxLen]; omega) hl (by simp) ?_
  intro v1 w1 hown hg _ hat
  have hown' : Rw w1 e k enc v1 (xs ++ [y]) := by unfold Rw; simpa using hown
  obtain ⟨g, cap, rfl, _⟩ := hown'.form (by simp)
  refine h g cap w1 hown' ((Keep.alloc W _ _).trans (Keep.of_gb hg)) ?_
  rcases hat with hat | hat
  · left; unfold foot; rw [← hat]; simp [Value.ownBlock]
  · right
    simp [Value.ownBlock] at hat
    omega
end
/-- .. of a thing that lies in a block of its own. -/
theorem append_any {P : Program} {α : Type} {w : World} (ty t e : TypeId) (k bytes : Nat) (enc : α → List Value) (hk : ∀ x, (enc x).length = k) (z : Value) (hz : z.cells.size = k) (hk0 : 0 < k)
    (ht : P.underlying t = some (.slice e)) (hinfo : (P.info? e).map (fun i => (i.zero, i.size, i.bytes)) = some (some z, k, bytes)) (hb0 : 0 < bytes)
    (v : Value) (xs : List α) (y : α) (cs : Array Value) (hcs : cs.toList = enc y) (h1 : ∀ u ∈ enc y, u.oneCell' = true) (q : Nat) (hq : w.heap[q]? = some (.cells cs e (0, 0)))
    (HO : Rw w e k enc v xs) (hl : (xs.length + 1) * bytes ≤ 140737488355328) :
    ∃ v1 w1, (Builtin.append_ #[t, t] ty #[v, .slice (some ⟨q, 0, none⟩) 1 1]).run P w = .ok v1 w1 ∧ Rw w1 e k enc v1 (xs ++ [y]) ∧ Keep w w1 (foot v) ∧ ∀ j ∈ foot v1, j ∈ foot v ∨ w.heap.size ≤ j := by
  obtain ⟨i0, hi, hzz⟩ := Option.map_eq_some_iff.1 hinfo
  simp only [Prod.mk.injEq] at hzz
  obtain ⟨hz0, hz1, hz2⟩ := hzz
  have hlen : xs.length + 1 ≤ 140737488355328 := Nat.le_trans (Nat.le_mul_of_pos_right _ hb0) hl
  obtain ⟨v', w', hr, hown, hg, _, hat⟩ := run_append_own_at (P := P) w 0 t ty e i0 z k bytes ht hi hz0 hz1 hz2 hz hk0 v xs.length (xs.flatMap enc) HO ⟨q, 0, none⟩ 1 1 (enc y) (by rw [hk, Nat.one_mul])
    (by rw [← hcs]; exact World.news_of_block (cs := cs) (t := e) (fr := (0, 0)) hq) h1 (by simp only [maxLen]; omega) hl (Nat.zero_le _)
  refine ⟨v', w', hr, by unfold Rw; simpa using hown, Keep.of_gb hg, fun j hj => ?_⟩
  rcases hat with hat | hat
  · left; unfold foot at hj ⊢; rw [hat] at hj; exact hj
  · right
    unfold foot at hj
    rw [hat] at hj
    simp at hj
    omega
theorem info50 : (Tryd.prog.info? 50).map (fun i => (i.zero, i.size, i.bytes)) = some (some (.agg #[.string ⟨#[]⟩, .int .i64 0, .int .i64 0, .int .i64 0]), 4, 40) := by kernel_rfl
theorem ac_one (x : Ac) : ∀ u ∈ ac x, u.oneCell' = true := fun u hu => by
  simp [ac] at hu
  rcases hu with rfl | rfl | rfl | rfl <;> rfl
theorem lc_one (x : It) : ∀ u ∈ lc x, u.oneCell' = true := fun u hu => by
  simp [lc] at hu
  rcases hu with rfl | rfl <;> rfl
theorem st_one (x : ByteArray) : ∀ u ∈ st x, u.oneCell' = true := fun u hu => by
  simp [st] at hu
  subst hu; rfl
set_option maxRecDepth 100000 in
set_option maxHeartbeats 1600000 in
theorem of_is (v : Value) (l : List Ac) (w : World) (h : Rr w 4 ac v l) (hn : l.length ≤ 100000) : Calls Tryd.prog 12 #[v] w fun e w' => ∃ v', e = .returned v' ∧ Rw w' 50 4 ac v' l ∧ Below w.heap.size w w' := by
  obtain ⟨a, cap, rfl, hx⟩ := h
  have HX := Lib.hid (show Rr w 4 ac (.slice a l.length cap) l from ⟨a, cap, rfl, hx⟩)
  clear hx
  go_enter Tryd.func12, Tryd.ntmps12
  go_wp2
  go_loopw [3, 4] (fun u i wr => ∃ k : Nat, k ≤ l.length ∧ i = .int .i64 k ∧ Rw wr 50 4 ac u (l.take k) ∧ Below w.heap.size w wr ∧ ∀ j ∈ foot u, w.heap.size ≤ j) (fun _ i _ => l.length - (intOf i).toNat)
  case atStart => exact ⟨0, Nat.zero_le _, rfl, Rw.nil .., Below.refl _ _, by simp [foot_nil]⟩
  case round =>
    obtain ⟨k, hk, rfl, ho, hb, hf⟩ := hrel
    have HO := Lib.hid ho
    have HB := Lib.hid hb
    have HF := Lib.hid hf
    clear ho hb hf
    by_cases hlt : k < l.length
    · obtain ⟨g, o, rfl, hg, x, hx, hc⟩ := (HX.out.below HB.out).at_ k hlt
      obtain ⟨c0, c1, c2, c3⟩ := ac_cells hc
      have HXK := Lib.hid hx
      clear hx hc
      go_wp2_with fail
      obtain ⟨W1, hW1⟩ : ∃ W1 : World, W1 = wr := ⟨_, rfl⟩
      rw [← hW1] at HO HB hg c0 c1 c2 c3 ⊢
      obtain ⟨T1, hT1⟩ : ∃ T1 : Value → World → Prop, T1 = fun v1 w' => Rw w' 50 4 ac v1 (l.take k ++ [x]) ∧ Keep W1 w' (foot u3) ∧ ∀ j ∈ foot v1, j ∈ foot u3 ∨ W1.heap.size ≤ j := ⟨_, rfl⟩
      have H0 : Hid (∀ w', Below W1.heap.size W1 w' → Below W1.heap.size W1 (w'.alloc (.cells #[.string x.w, .int .i64 x.a, .int .i64 x.b, .int .i64 x.c] 50)) ∧ (true = true → ∃ q, (.slice (some ⟨w'.heap.size, 0, none⟩) 1 1 : Value) = .slice (some ⟨q, 0, none⟩) 1 1 ∧ W1.heap.size ≤ q ∧ (w'.alloc (.cells #[.string x.w, .int .i64 x.a, .int .i64 x.b, .int .i64 x.c] 50)).heap[q]? = some (.cells #[.string x.w, .int .i64 x.a, .int .i64 x.b, .int .i64 x.c] 50 (0, 0)))) := fun w' hb =>
        ⟨hb.alloc hb.size _, fun _ => ⟨_, rfl, hb.size, heap_alloc_new w' _⟩⟩
      have HQ : Hid (∀ (w' : World) (q : Nat), Below W1.heap.size W1 w' → w'.heap[q]? = some (.cells #[.string x.w, .int .i64 x.a, .int .i64 x.b, .int .i64 x.c] 50 (0, 0)) → ∃ v1 w1, (Builtin.append_ #[33, 33] 33 #[u3, .slice (some ⟨q, 0, none⟩) 1 1]).run Tryd.prog w' = .ok v1 w1 ∧ T1 v1 w1) := fun w' q hb hq => by
        obtain ⟨v1, w1, h1, h2, h3, h4⟩ := append_any (P := Tryd.prog) (w := w') 33 33 50 4 40 ac ac_length _ rfl (by omega) Tryd.underlying33 info50 (by omega) u3 (l.take k) x _ rfl (ac_one x) q hq (HO.out.below hb) (by rw [List.length_take]; omega)
        refine ⟨v1, w1, h1, ?_⟩
        rw [hT1]
        exact ⟨h2, (Keep.of_below hb _).trans h3, fun j hj => (h4 j hj).imp id (Nat.le_trans hb.size)⟩
      have hgl : g < W1.heap.size := hg
      obtain ⟨u, hu⟩ : ∃ u, u = u3 := ⟨_, rfl⟩
      rw [← hu] at HQ hT1 HO HF ⊢
      clear hW1 hu hg
      obtain ⟨I, hI⟩ : ∃ I : (Nat → Bool) → Act → World → Prop, ∀ dn ac wc, I dn ac wc ↔ ∃ s3 s11 s12 s13 s14 s15 s16 s17 s18 s19 s20 s21 s22 s23 s24, ac = ⟨#[.slice (some ⟨g, o, none⟩) l.length cap, undef, .slice none 0 0, s3, .int .i64 (k : Nat), .int .i64 (k : Nat), .slice (some ⟨g, o, none⟩) l.length cap, .int .i64 (l.length : Nat), .bool true, u9, u10, s11, s12, s13, s14, s15, s16, s17, s18, s19, s20, s21, s22, s23, s24, undef], []⟩ ∧
        St2 wc dn [(0, u, s11), (1, .slice (some ⟨g, o, none⟩) l.length cap, s12), (2, .int .i64 (k : Nat), s13), (3, .pointer (some ⟨g, o + k * 4, none⟩), s14), (4, .pointer (some ⟨g, o + k * 4, none⟩), s15), (5, .string x.w, s16), (6, .slice (some ⟨g, o, none⟩) l.length cap, s17), (7, .int .i64 (k : Nat), s18), (8, .pointer (some ⟨g, o + k * 4, none⟩), s19), (9, .pointer (some ⟨g, o + k * 4 + 1, none⟩), s20), (10, .agg #[.int .i64 x.a, .int .i64 x.b, .int .i64 x.c], s21), (11, .agg #[.string x.w, .int .i64 x.a, .int .i64 x.b, .int .i64 x.c], s22)] (fun w' => Below W1.heap.size W1 w' ∧ (dn 12 = true → ∃ q, s23 = .slice (some ⟨q, 0, none⟩) 1 1 ∧ W1.heap.size ≤ q ∧ w'.heap[q]? = some (.cells #[.string x.w, .int .i64 x.a, .int .i64 x.b, .int .i64 x.c] 50 (0, 0))) ∧ s3 = u) (fun w' => T1 s24 w' ∧ s3 = u) (fun w' => T1 s3 w') 13 14 [0, 1, 2, 3, 4, 5, 6, 7, 8, 9, 10, 11, 12] := ⟨_, fun _ _ _ => Iff.rfl⟩
      have HI := Lib.hid hI
      clear hI
      refine wp_region_invC (by kernel_rfl) (by kernel_rfl) I ?_ ?_ ?_
      · exact (HI.out _ _ _).2 ⟨_, _, _, _, _, _, _, _, _, _, _, _, _, _, _, rfl, St2.start _ _ _ _ _ _ _ _ ⟨Below.refl _ _, (fun h => by cases h), rfl⟩ (fun w1 w2 h hb => ⟨h.1.trans (hb.mono h.1.size), (fun h => by cases h), h.2.2⟩)⟩
      · intro i o dn ac wc ho hd hdep hcl hIn
        obtain ⟨s3, s11, s12, s13, s14, s15, s16, s17, s18, s19, s20, s21, s22, s23, s24, rfl, hT⟩ := (HI.out _ _ _).1 hIn
        clear hIn
        rcases i with _ | _ | _ | _ | _ | _ | _ | _ | _ | _ | _ | _ | _ | _ | _ | i
        · obtain rfl := Option.some.inj ho
          have hS := hT.at0 0 hd (by decide)
          have hs3 := hS.2.2.symm
          clear hS
          subst hs3
          have hS := True.intro
          have HT := Lib.hid hT
          clear hT hdep hcl
          clear hS
          refine .inl ?_
          unfold Oper.wp
          go_simp
          exact (HI.out _ _ _).2 ⟨_, _, _, _, _, _, _, _, _, _, _, _, _, _, _, rfl, (HT.out).put 0 0 (u) (by decide) rfl⟩
        · obtain rfl := Option.some.inj ho
          have HT := Lib.hid hT
          clear hT hdep hcl
          refine .inl ?_
          unfold Oper.wp
          go_simp
          exact (HI.out _ _ _).2 ⟨_, _, _, _, _, _, _, _, _, _, _, _, _, _, _, rfl, (HT.out).put 1 1 (.slice (some ⟨g, o, none⟩) l.length cap) (by decide) rfl⟩
        · obtain rfl := Option.some.inj ho
          have HT := Lib.hid hT
          clear hT hdep hcl
          refine .inl ?_
          unfold Oper.wp
          go_simp
          exact (HI.out _ _ _).2 ⟨_, _, _, _, _, _, _, _, _, _, _, _, _, _, _, rfl, (HT.out).put 2 2 (.int .i64 (k : Nat)) (by decide) rfl⟩
        · obtain rfl := Option.some.inj ho
          have e1 := hT.vals _ (List.Mem.tail _ (List.Mem.head _)) (hdep ⟨1, .data⟩ (by simp) rfl)
          dsimp only at e1
          subst e1
          have e2 := hT.vals _ (List.Mem.tail _ (List.Mem.tail _ (List.Mem.head _))) (hdep ⟨2, .data⟩ (by simp) rfl)
          dsimp only at e2
          subst e2
          have HT := Lib.hid hT
          clear hT hdep hcl
          refine .inl ?_
          unfold Oper.wp
          go_simp
          exact (HI.out _ _ _).2 ⟨_, _, _, _, _, _, _, _, _, _, _, _, _, _, _, rfl, (HT.out).put 3 3 (.pointer (some ⟨g, o + k * 4, none⟩)) (by decide) rfl⟩
        · obtain rfl := Option.some.inj ho
          have e3 := hT.vals _ (List.Mem.tail _ (List.Mem.tail _ (List.Mem.tail _ (List.Mem.head _)))) (hdep ⟨3, .data⟩ (by simp) rfl)
          dsimp only at e3
          subst e3
          have HT := Lib.hid hT
          clear hT hdep hcl
          refine .inl ?_
          unfold Oper.wp
          go_simp
          exact (HI.out _ _ _).2 ⟨_, _, _, _, _, _, _, _, _, _, _, _, _, _, _, rfl, (HT.out).put 4 4 (.pointer (some ⟨g, o + k * 4, none⟩)) (by decide) rfl⟩
        · obtain rfl := Option.some.inj ho
          have e4 := hT.vals _ (List.Mem.tail _ (List.Mem.tail _ (List.Mem.tail _ (List.Mem.tail _ (List.Mem.head _))))) (hdep ⟨4, .data⟩ (by simp) rfl)
          dsimp only at e4
          subst e4
          have hS := hT.at0 5 hd (by decide)
          have l0 := (hS.1.cell (p := ⟨g, o + k * 4, none⟩) hgl).trans c0
          have HT := Lib.hid hT
          clear hT hdep hcl
          clear hS
          refine .inl ?_
          unfold Oper.wp
          go_simp
          exact (HI.out _ _ _).2 ⟨_, _, _, _, _, _, _, _, _, _, _, _, _, _, _, rfl, (HT.out).put 5 5 (.string x.w) (by decide) rfl⟩
        · obtain rfl := Option.some.inj ho
          have HT := Lib.hid hT
          clear hT hdep hcl
          refine .inl ?_
          unfold Oper.wp
          go_simp
          exact (HI.out _ _ _).2 ⟨_, _, _, _, _, _, _, _, _, _, _, _, _, _, _, rfl, (HT.out).put 6 6 (.slice (some ⟨g, o, none⟩) l.length cap) (by decide) rfl⟩
        · obtain rfl := Option.some.inj ho
          have HT := Lib.hid hT
          clear hT hdep hcl
          refine .inl ?_
          unfold Oper.wp
          go_simp
          exact (HI.out _ _ _).2 ⟨_, _, _, _, _, _, _, _, _, _, _, _, _, _, _, rfl, (HT.out).put 7 7 (.int .i64 (k : Nat)) (by decide) rfl⟩
        · obtain rfl := Option.some.inj ho
          have e6 := hT.vals _ (List.Mem.tail _ (List.Mem.tail _ (List.Mem.tail _ (List.Mem.tail _ (List.Mem.tail _ (List.Mem.tail _ (List.Mem.head _))))))) (hdep ⟨6, .data⟩ (by simp) rfl)
          dsimp only at e6
          subst e6
          have e7 := hT.vals _ (List.Mem.tail _ (List.Mem.tail _ (List.Mem.tail _ (List.Mem.tail _ (List.Mem.tail _ (List.Mem.tail _ (List.Mem.tail _ (List.Mem.head _)))))))) (hdep ⟨7, .data⟩ (by simp) rfl)
          dsimp only at e7
          subst e7
          have HT := Lib.hid hT
          clear hT hdep hcl
          refine .inl ?_
          unfold Oper.wp
          go_simp
          exact (HI.out _ _ _).2 ⟨_, _, _, _, _, _, _, _, _, _, _, _, _, _, _, rfl, (HT.out).put 8 8 (.pointer (some ⟨g, o + k * 4, none⟩)) (by decide) rfl⟩
        · obtain rfl := Option.some.inj ho
          have e8 := hT.vals _ (List.Mem.tail _ (List.Mem.tail _ (List.Mem.tail _ (List.Mem.tail _ (List.Mem.tail _ (List.Mem.tail _ (List.Mem.tail _ (List.Mem.tail _ (List.Mem.head _))))))))) (hdep ⟨8, .data⟩ (by simp) rfl)
          dsimp only at e8
          subst e8
          have HT := Lib.hid hT
          clear hT hdep hcl
          refine .inl ?_
          unfold Oper.wp
          go_simp
          exact (HI.out _ _ _).2 ⟨_, _, _, _, _, _, _, _, _, _, _, _, _, _, _, rfl, (HT.out).put 9 9 (.pointer (some ⟨g, o + k * 4 + 1, none⟩)) (by decide) rfl⟩
        · obtain rfl := Option.some.inj ho
          have e9 := hT.vals _ (List.Mem.tail _ (List.Mem.tail _ (List.Mem.tail _ (List.Mem.tail _ (List.Mem.tail _ (List.Mem.tail _ (List.Mem.tail _ (List.Mem.tail _ (List.Mem.tail _ (List.Mem.head _)))))))))) (hdep ⟨9, .data⟩ (by simp) rfl)
          dsimp only at e9
          subst e9
          have hS := hT.at0 10 hd (by decide)
          have l1 := (hS.1.cell (p := ⟨g, o + k * 4 + 1, none⟩) hgl).trans c1
          have l2 := (hS.1.cell (p := ⟨g, o + k * 4 + 1 + 1, none⟩) hgl).trans c2
          have l3 := (hS.1.cell (p := ⟨g, o + k * 4 + 1 + 2, none⟩) hgl).trans c3
          have HT := Lib.hid hT
          clear hT hdep hcl
          clear hS
          refine .inl ?_
          unfold Oper.wp
          go_simp
          exact (HI.out _ _ _).2 ⟨_, _, _, _, _, _, _, _, _, _, _, _, _, _, _, rfl, (HT.out).put 10 10 (.agg #[.int .i64 x.a, .int .i64 x.b, .int .i64 x.c]) (by decide) rfl⟩
        · obtain rfl := Option.some.inj ho
          have e5 := hT.vals _ (List.Mem.tail _ (List.Mem.tail _ (List.Mem.tail _ (List.Mem.tail _ (List.Mem.tail _ (List.Mem.head _)))))) (hdep ⟨5, .data⟩ (by simp) rfl)
          dsimp only at e5
          subst e5
          have e10 := hT.vals _ (List.Mem.tail _ (List.Mem.tail _ (List.Mem.tail _ (List.Mem.tail _ (List.Mem.tail _ (List.Mem.tail _ (List.Mem.tail _ (List.Mem.tail _ (List.Mem.tail _ (List.Mem.tail _ (List.Mem.head _))))))))))) (hdep ⟨10, .data⟩ (by simp) rfl)
          dsimp only at e10
          subst e10
          have HT := Lib.hid hT
          clear hT hdep hcl
          refine .inl ?_
          unfold Oper.wp
          go_simp
          exact (HI.out _ _ _).2 ⟨_, _, _, _, _, _, _, _, _, _, _, _, _, _, _, rfl, (HT.out).put 11 11 (.agg #[.string x.w, .int .i64 x.a, .int .i64 x.b, .int .i64 x.c]) (by decide) rfl⟩
        · obtain rfl := Option.some.inj ho
          have e11 := hT.vals _ (List.Mem.tail _ (List.Mem.tail _ (List.Mem.tail _ (List.Mem.tail _ (List.Mem.tail _ (List.Mem.tail _ (List.Mem.tail _ (List.Mem.tail _ (List.Mem.tail _ (List.Mem.tail _ (List.Mem.tail _ (List.Mem.head _)))))))))))) (hdep ⟨11, .data⟩ (by simp) rfl)
          dsimp only at e11
          subst e11
          have hS := hT.at0 12 hd (by decide)
          have h0 := H0.out wc hS.1
          have hnew := Lib.hid (And.intro h0.1 (And.intro h0.2 hS.2.2))
          clear h0
          have HT := Lib.hid hT
          have HD := Lib.hid hd
          clear hT hdep hcl hd hS
          refine .inl ?_
          unfold Oper.wp
          go_simp
          exact (HI.out _ _ _).2 ⟨_, _, _, _, _, _, _, _, _, _, _, _, _, _, _, rfl, HT.out.midW 12 HD.out (by decide) (by decide) rfl hnew.out⟩
        · obtain rfl := Option.some.inj ho
          have e0 := hT.vals _ (List.Mem.head _) (hdep ⟨0, .data⟩ (by simp) rfl)
          dsimp only at e0
          subst e0
          have d0 := hdep ⟨0, .data⟩ (by simp) rfl
          have d12 := hdep ⟨12, .data⟩ (by simp) rfl
          have d11 := hcl 12 _ rfl d12 ⟨11, .data⟩ (by simp) rfl
          have d5 := hcl 11 _ rfl d11 ⟨5, .data⟩ (by simp) rfl
          have d10 := hcl 11 _ rfl d11 ⟨10, .data⟩ (by simp) rfl
          have d4 := hcl 5 _ rfl d5 ⟨4, .data⟩ (by simp) rfl
          have d3 := hcl 4 _ rfl d4 ⟨3, .data⟩ (by simp) rfl
          have d1 := hcl 3 _ rfl d3 ⟨1, .data⟩ (by simp) rfl
          have d2 := hcl 3 _ rfl d3 ⟨2, .data⟩ (by simp) rfl
          have d9 := hcl 10 _ rfl d10 ⟨9, .data⟩ (by simp) rfl
          have d8 := hcl 9 _ rfl d9 ⟨8, .data⟩ (by simp) rfl
          have d6 := hcl 8 _ rfl d8 ⟨6, .data⟩ (by simp) rfl
          have d7 := hcl 8 _ rfl d8 ⟨7, .data⟩ (by simp) rfl
          have hpre : ∀ e ∈ [0, 1, 2, 3, 4, 5, 6, 7, 8, 9, 10, 11, 12], dn e = true := by
            intro e he
            simp only [List.mem_cons, List.not_mem_nil, or_false] at he
            rcases he with rfl | rfl | rfl | rfl | rfl | rfl | rfl | rfl | rfl | rfl | rfl | rfl | rfl
            · exact d0
            · exact d1
            · exact d2
            · exact d3
            · exact d4
            · exact d5
            · exact d6
            · exact d7
            · exact d8
            · exact d9
            · exact d10
            · exact d11
            · exact d12
          have hS := hT.at0 13 hd (by decide)
          obtain ⟨hSb, hSq, hSu⟩ := hS
          obtain ⟨q, rfl, hq1, hq2⟩ := hSq d12
          obtain ⟨v1, w1, hr, ht1⟩ := HQ.out wc q hSb hq2
          have hnew := Lib.hid (And.intro ht1 hSu)
          have HT := Lib.hid hT
          clear hT hdep hcl
          refine .inl (Lib.wp_append_run wc (.tmp 11) (.tmp 23) 33 33 rfl _ _ rfl rfl v1 w1 hr ?_)
          exact (HI.out _ _ _).2 ⟨_, _, _, _, _, _, _, _, _, _, _, _, _, _, _, rfl, HT.out.fstV hd (by decide) hpre rfl hnew.out⟩
        · obtain rfl := Option.some.inj ho
          have hi1 := hdep ⟨13, .data⟩ (by simp) rfl
          have hS := hT.at1 hd hi1
          have hnew := Lib.hid hS.1
          have HT := Lib.hid hT
          clear hT hdep hcl hS
          refine .inl ?_
          unfold Oper.wp
          go_simp
          exact (HI.out _ _ _).2 ⟨_, _, _, _, _, _, _, _, _, _, _, _, _, _, _, rfl, HT.out.sndV (by decide) hi1 rfl hnew.out⟩
        · cases ho
      · intro dn ac wc hd hIn
        obtain ⟨s3, s11, s12, s13, s14, s15, s16, s17, s18, s19, s20, s21, s22, s23, s24, rfl, hT⟩ := (HI.out _ _ _).1 hIn
        have hF := Lib.hid (hT.done (hd 14 (by decide)))
        clear HI hIn hT hd
        have hF2 := hF.out
        rw [hT1] at hF2
        have HF2 := Lib.hid hF2
        clear hF2 hF
        obtain ⟨sa, sc, hs3⟩ := HF2.out.1.shape
        have HS3 := Lib.hid hs3
        clear hs3
        go_wp2_with fail
        go_roundw
        case rel =>
          have e1 : l.take k ++ [x] = l.take (k + 1) := by rw [List.take_add_one, HXK.out]; rfl
          have h9 := HF2.out
          rw [e1] at h9
          refine ⟨k + 1, by omega, by go_num, h9.1, h9.2.1.below HB.out (fun j hj => HF.out j hj), fun j hj => ?_⟩
          rcases h9.2.2 j hj with h | h
          · exact HF.out j h
          · exact Nat.le_trans HB.out.size h
        case measure => simp [intOf]; omega
    · go_wp2_with fail
      go_ret
      have e1 : l.take k = l := List.take_of_length_le (by omega)
      have h9 := HO.out
      rw [e1] at h9
      exact ⟨_, rfl, h9, HB.out⟩
end Go.Proofs.YthoemgiadadfcaaDoor
