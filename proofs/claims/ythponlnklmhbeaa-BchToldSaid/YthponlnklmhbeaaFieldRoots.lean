/- The walk of the law FieldRoots. -/
import Derived.Test.YthponlnklmhbeaaFieldEvalLaw
import Derived.Test.YthponlnklmhbeaaFieldRootPure
set_option linter.unusedVariables false
set_option linter.unusedSimpArgs false
namespace Go.Proofs.Ythponlnklmhbeaa
open Go.ChangeShapes Go.WideShapes Go.ChangeAt Go.RowKit Go.Sort F7
def U8s (w : World) (a : Option Addr) (n : Nat) (ns : List Nat) : Prop :=
  ns.length = n ∧ (0 < n → ∃ b o, a = some ⟨b, o, none⟩ ∧ b < w.heap.size ∧ ∀ i, i < n → w.cell? ⟨b, o + i, none⟩ = some (.int .u8 (ns.getD i 0 : Nat)) ∧ ns.getD i 0 ≤ 255)
theorem U8s.below {w w' : World} {a : Option Addr} {n : Nat} {zs : List Nat} (h : U8s w a n zs) (hb : Below w.heap.size w w') : U8s w' a n zs :=
  ⟨h.1, fun hn => by
    obtain ⟨b, o, h1, h2, h3⟩ := h.2 hn
    exact ⟨b, o, h1, Nat.lt_of_lt_of_le h2 hb.size, fun i hi => ⟨(hb.cell h2).trans (h3 i hi).1, (h3 i hi).2⟩⟩⟩
theorem open_row_28 {H : Type} {enc : TypeId × Value → H} {W : World} {base : Nat} {spare : Nat → Bool} {held : Bool} {a : Option Addr} {len cap : Nat} {d : DataW H} {p : List MemPlace}
    (h : DataW.Trod enc Try.prog W base spare held 28 (.slice a len cap) d p) : ∃ zs, U8s W a len zs := by
  obtain ⟨fuel, hf⟩ := h
  rcases open_ints Try.underlying28 Try.underlying5 (by kernel_rfl) hf with ⟨hcs, _⟩ | ⟨x, l, c, zs, hcs, _, hl, hm, hz, _, hcell, hwf⟩
  · simp [Value.cells] at hcs
    obtain ⟨rfl, rfl, rfl⟩ := hcs
    exact ⟨[], rfl, fun h => by omega⟩
  · simp [Value.cells] at hcs
    obtain ⟨rfl, rfl, rfl⟩ := hcs
    have hlz : len ≤ zs.length := by rw [hz]; split <;> omega
    refine ⟨(zs.take len).map Int.toNat, by simp; omega, fun hp => ?_⟩
    obtain ⟨b, off, rfl, hc⟩ := ints_at hcell (by omega)
    refine ⟨b, off, rfl, World.block_lt_of_cell? W _ (hc 0 (by omega)), fun i hi => ?_⟩
    have hw := hwf (zs.getD i 0) (by rw [List.getD_eq_getElem?_getD, List.getElem?_eq_getElem (by omega), Option.getD_some]; exact List.getElem_mem _)
    simp only [Lit.wf, Bool.and_eq_true, decide_eq_true_eq] at hw
    have hw' : 0 ≤ zs.getD i 0 ∧ zs.getD i 0 ≤ 255 := hw
    have e : ((zs.take len).map Int.toNat).getD i 0 = (zs.getD i 0).toNat := by
      simp [List.getD_eq_getElem?_getD, List.getElem?_take, hi]
      rw [List.getElem?_eq_getElem (show i < zs.length by omega)]; rfl
    rw [e]
    refine ⟨?_, by omega⟩
    rw [hc i (by omega), Int.toNat_of_nonneg hw'.1]
theorem info3 : (Try.prog.info? 3).map (fun i => (i.zero, i.size, i.bytes)) = some (some (.int .i64 0), 1, 8) := by kernel_rfl
def cst (l : List Nat) : List Int := l.map Nat.cast
theorem evL_cst (l : List Nat) (h : Low l) (x : Nat) : evL (cst l) x = ev l x := by
  induction l with
  | nil => rfl
  | cons c l ih =>
    have e : evL (cst (c :: l)) x = mul (evL (cst l) x) x ^^^ r7 (c : Int) := rfl
    rw [e, ih fun c hc => h c (List.mem_cons_of_mem _ hc), r7_nat (h c (by simp))]
    rfl
def rests (ns : List Nat) : List Nat := ns.map (· % 128)
theorem rests_low (ns : List Nat) : Low (rests ns) := by
  intro c hc
  obtain ⟨n, _, rfl⟩ := List.mem_map.1 hc
  exact Nat.mod_lt _ (by omega)
def allZ (l : List Nat) : Bool := l.all (· == 0)
theorem take_snoc (ns : List Nat) (j : Nat) (h : j < ns.length) : rests (ns.take (j + 1)) = rests (ns.take j) ++ [ns.getD j 0 % 128] := by
  rw [List.take_succ_eq_append_getElem h]
  unfold rests
  rw [List.map_append, List.getD_eq_getElem?_getD, List.getElem?_eq_getElem h]
  rfl
theorem allZ_snoc (l : List Nat) (q : Nat) : allZ (l ++ [q]) = (allZ l && (q == 0)) := by simp [allZ]
theorem beq_zero_cast (q : Nat) : ((q : Int) == 0) = (q == 0) := by
  rw [Bool.eq_iff_iff]; simp
theorem z_false {l l' : List Nat} {q : Nat} (h : l' = l ++ [q]) (hz : false = allZ l) : Value.bool false = .bool (allZ l') := by rw [h, allZ_snoc, ← hz]; rfl
theorem z_true {l l' : List Nat} {q : Nat} (h : l' = l ++ [q]) (hz : true = allZ l) : Value.bool ((q : Int) == 0) = .bool (allZ l') := by rw [h, allZ_snoc, ← hz, beq_zero_cast]; rfl
def cntp (Q : List Nat) (t : Nat) : Nat := (List.range t).countP fun x => ev Q x == 0
theorem cntp_succ (Q : List Nat) (t : Nat) : cntp Q (t + 1) = if ev Q t = 0 then cntp Q t + 1 else cntp Q t := by
  unfold cntp
  rw [List.range_succ, List.countP_append]
  by_cases h : ev Q t = 0 <;> simp [h]
theorem cntp_le (Q : List Nat) (t : Nat) : cntp Q t ≤ t := by
  have := List.countP_le_length (p := fun x => ev Q x == 0) (l := List.range t)
  rw [List.length_range] at this
  exact this
/-- A field at b and a row v of numbers, both new since w. -/
structure Rw (w w' : World) (b : Nat) (v : Value) (l : List Nat) : Prop where
  own : Own w' 3 .i64 v (cst l)
  fd : Fd w' b
  below : Below w.heap.size w w'
  foot : ∀ j ∈ foot v, w.heap.size ≤ j ∧ j ≠ b
theorem Fd.lt {w : World} {b : Nat} (h : Fd w b) : b < w.heap.size := World.block_lt_of_cell? w _ (h.exp 0 (by omega))
theorem Fd.keep {w w' : World} {b : Nat} {F : List Nat} (h : Fd w b) (hk : Keep w w' F) (hn : b ∉ F) : Fd w' b :=
  ⟨fun j hj => (World.cell?_of_block (hk.block b h.lt hn)).trans (h.exp j hj), fun j hj => (World.cell?_of_block (hk.block b h.lt hn)).trans (h.log j hj)⟩
theorem Rw.push {w w1 w2 : World} {b g c q : Nat} {v : Value} {l : List Nat} (h : Rw w w1 b v l) (ho : Own w2 3 .i64 (.slice (some ⟨g, 0, none⟩) (cst l ++ [(q : Int)]).length c) (cst l ++ [(q : Int)])) (hk : Keep w1 w2 (Ythponlnklmhbeaa.foot v)) (hf : g ∈ Ythponlnklmhbeaa.foot v ∨ w1.heap.size ≤ g) :
    Rw w w2 b (.slice (some ⟨g, 0, none⟩) (cst l ++ [(q : Int)]).length c) (l ++ [q]) := by
  refine ⟨by rw [show cst (l ++ [q]) = cst l ++ [(q : Int)] by simp [cst]]; exact ho, h.fd.keep hk (fun hb => (h.foot b hb).2 rfl), hk.below h.below (fun j hj => (h.foot j hj).1), ?_⟩
  intro j hj
  rw [foot_slice] at hj
  simp only [List.mem_singleton] at hj
  subst hj
  rcases hf with h' | h'
  · exact h.foot _ h'
  · exact ⟨Nat.le_trans h.below.size h', by have := h.fd.lt; omega⟩
theorem Own.ints {w : World} {v : Value} {xs : List Int} (h : Own w 3 .i64 v xs) : ∃ a cap, v = .slice a xs.length cap ∧ Ints w a xs.length xs := by
  by_cases hn : 0 < xs.length
  · obtain ⟨g, cap, rfl⟩ := h.form hn
    refine ⟨_, cap, rfl, rfl, fun _ => ⟨g, 0, rfl, h.lt g (by simp [foot, Value.ownBlock]), fun i hi => ?_⟩⟩
    rw [Nat.zero_add]; exact h.at_ i hi
  · obtain ⟨a, cap, rfl⟩ := h.shape
    exact ⟨a, cap, rfl, rfl, fun h => absurd h hn⟩
set_option maxRecDepth 100000 in
set_option maxHeartbeats 4000000 in
theorem fieldRoots_walk (a0 : Option Addr) (n cap : Nat) (ns : List Nat) (w : World) (hz : U8s w a0 n ns) :
    Calls Try.prog 4 #[.slice a0 n cap] w fun e w' => e = .returned (.bool true) ∧ Below w.heap.size w w' := by
  have hb0 := Below.refl w.heap.size w
  by_cases h30 : n ≤ 30
  · have hlen := hz.1
    have HZ := Lib.hid hz
    clear hz
    go_enter Try.func4, Try.ntmps4
    go_wp2_with (first | (go_at_call 15; (with_reducible refine (on_base (by assumption) (fieldAwake_is _)).mono ?_); rintro e w1 ⟨rfl, hb1⟩) | (go_at_call 16; (with_reducible refine (new_on hb1).mono ?_); rintro e W ⟨b, rfl, hF, hbW⟩; have HF := Lib.hid hF; clear hF))
    go_loopw [4, 5, 6] (fun v z i wr => ∃ j : Nat, j ≤ n ∧ i = .int .i64 j ∧ z = .bool (allZ (rests (ns.take j))) ∧ Hid (Rw w wr b v (rests (ns.take j)))) (fun _ _ i _ => n - (intOf i).toNat)
    case atStart => exact ⟨0, Nat.zero_le _, rfl, rfl, Lib.hid ⟨by simpa [rests, cst] using Own.nil W 3 .i64, HF.out, hbW, by simp [foot, Value.ownBlock]⟩⟩
    case round =>
      clear HF hbW hb1
      obtain ⟨j, hj, rfl, rfl, hR⟩ := hrel
      by_cases hlt : j < n
      · obtain ⟨g, o, rfl, hg, hcell⟩ := (HZ.out.below hR.out.below).2 (by omega)
        obtain ⟨hc, hcb⟩ := hcell j hlt
        have hcw := (HZ.out.2 (by omega))
        have hsn := take_snoc ns j (by omega)
        obtain ⟨c, hce⟩ : ∃ c, c = ns.getD j 0 := ⟨_, rfl⟩
        rw [← hce] at hc hcb hsn
        obtain ⟨q, hq⟩ : ∃ q, q = c % 128 := ⟨_, rfl⟩
        have hq1 : (c : Int) % 128 = q := by omega
        have hql : q < 128 := by omega
        rw [← hq] at hsn
        have HSN := Lib.hid hsn
        have hl : (cst (rests (ns.take j))).length = j := by simp [cst, rests]; omega
        have HL := Lib.hid hl
        obtain ⟨Z, hZ⟩ : ∃ Z, Z = allZ (rests (ns.take j)) := ⟨_, rfl⟩
        rw [← hZ]
        have HZZ := Lib.hid hZ
        have hcw : ∀ w3, Below w.heap.size w w3 → w3.cell? ⟨g, o + j, none⟩ = some (.int .u8 (c : Nat)) := fun w3 h3 => by
          obtain ⟨g', o', e, _, h4⟩ := (HZ.out.below h3).2 (by omega)
          injection e with e; injection e with e1 e2 e3
          rw [e1, e2, hce]; exact (h4 j hlt).1
        have HCW := Lib.hid hcw
        clear hsn hl hZ hcw hcell hq hce hg
        cases Z
        all_goals go_wp2_with (at_builtin; refine append_one rfl _ _ 29 3 .i64 8 rfl Try.underlying29 info3 (by decide) u4 (cst (rests (ns.take j))) (q : Int) rfl rfl hR.out.own (by rw [HL.out]; omega) ?_; intro g3 c3 w3 ho3 hk3 hf3; have hs3 := Lib.hid (hR.out.push ho3 hk3 hf3); have hc3 := HCW.out w3 hs3.out.below; clear ho3 hk3 hf3)
        all_goals
          go_roundw
          case rel =>
            refine ⟨j + 1, by omega, by go_num, ?_, ?_⟩
            · first | exact z_false HSN.out HZZ.out | exact z_true HSN.out HZZ.out
            · rw [HSN.out]
              have h := hs3.out
              rw [List.length_append] at h
              exact h
          case measure => simp [intOf]; omega
      · obtain rfl : j = n := by omega
        have hall : ns.take ns.length = ns := List.take_length
        rw [hlen] at hall
        rw [hall] at hR
        rw [hall]
        have hql : (cst (rests ns)).length = j := by simp [cst, rests]; omega
        have hlow := rests_low ns
        have hrl : (rests ns).length = j := by simp [rests]; omega
        obtain ⟨Q, hQ⟩ : ∃ Q, Q = rests ns := ⟨_, rfl⟩
        rw [← hQ] at hR hql hlow hrl
        rw [← hQ]
        clear hQ hall HZ
        obtain ⟨a1, c1, hv, hI⟩ := hR.out.own.ints
        subst hv
        rw [hql]
        rw [hql] at hI
        have hev : ∀ (k x : Nat), x < 128 → Calls Try.prog 19 #[.pointer (some ⟨b, 0, none⟩), .slice a1 j c1, .int .i64 x] (wr.drewN k) fun e w' => e = .returned (.int .i64 (ev Q x)) ∧ ∃ k', w' = wr.drewN k' := fun k x hx => by
          have h1 := eval_is b a1 j c1 (cst Q) x (wr.drewN k) (by omega) (hR.out.fd.drewN k) (hI.below (below_drewN wr k))
          rw [r7_nat hx, evL_cst Q hlow] at h1
          refine h1.mono fun e w' ⟨h2, k', h3⟩ => ⟨h2, k + k', by rw [h3, drew2]⟩
        have hbR := hR.out.below
        have hro := roots j Q hrl hlow
        have hra := roots_all Q
        obtain ⟨Z, hZ⟩ : ∃ Z, Z = allZ Q := ⟨_, rfl⟩
        have hfin : (Z = true ∧ zeros Q = 128) ∨ (Z = false ∧ zeros Q < j) := by
          by_cases hq : ∀ c ∈ Q, c = 0
          · exact .inl ⟨by rw [hZ]; simpa [allZ] using hq, hra hq⟩
          · refine .inr ⟨?_, hro hq⟩
            rw [hZ]
            cases h : allZ Q with
            | false => rfl
            | true => exact (hq (by simpa [allZ] using h)).elim
        rw [← hZ]
        clear hZ hro hra hI hR hql hlow hrl
        have HEV := Lib.hid hev
        have HFIN := Lib.hid hfin
        clear hev hfin
        obtain ⟨w0, hw0⟩ : ∃ w0, w0 = wr := ⟨_, rfl⟩
        rw [← hw0] at HEV hbR
        have hW0 : ∃ k, wr = w0.drewN k := ⟨0, by rw [hw0]; rfl⟩
        have HW0 := Lib.hid hW0
        clear hw0 hW0
        go_wp2
        go_loopw [7, 8] (fun c x wi => ∃ t : Nat, t ≤ 128 ∧ x = .int .i64 t ∧ c = .int .i64 (cntp Q t) ∧ Hid (∃ k, wi = w0.drewN k)) (fun _ x _ => 128 - (intOf x).toNat)
        case atStart => exact ⟨0, by omega, rfl, rfl, HW0⟩
        case round =>
          clear HW0
          obtain ⟨t, ht, rfl, rfl, hw⟩ := hrel
          obtain ⟨kk, rfl⟩ := hw.out
          by_cases hlt : t < 128
          · have he := HEV.out kk t hlt
            have hst := cntp_succ Q t
            have hcl := cntp_le Q t
            obtain ⟨T, hT⟩ : ∃ T, T = cntp Q t := ⟨_, rfl⟩
            rw [← hT] at hst hcl
            rw [← hT]
            by_cases h0 : ev Q t = 0
            · rw [h0] at he
              change Calls Try.prog 19 _ _ fun e w' => e = .returned (.int .i64 0) ∧ _ at he
              rw [if_pos h0] at hst
              have HST := Lib.hid hst
              clear hst h0 hT
              go_wp2_with (first | (go_at_call 19; (with_reducible refine he.mono ?_); rintro e v2 ⟨rfl, k2, rfl⟩))
              go_roundw
              case rel => exact ⟨t + 1, by omega, by go_num, by rw [HST.out]; go_num, Lib.hid ⟨_, rfl⟩⟩
              case measure => simp [intOf]; omega
            · rw [if_neg h0] at hst
              obtain ⟨V, hV⟩ : ∃ V, V = ev Q t := ⟨_, rfl⟩
              rw [← hV] at he h0
              have hne : ((V : Int) == 0) = false := by simp [h0]
              have HST := Lib.hid hst
              clear hst h0 hT hV
              go_wp2_with (first | (go_at_call 19; (with_reducible refine he.mono ?_); rintro e v2 ⟨rfl, k2, rfl⟩))
              go_roundw
              case rel => exact ⟨t + 1, by omega, by go_num, by rw [HST.out], Lib.hid ⟨_, rfl⟩⟩
              case measure => simp [intOf]; omega
          · obtain rfl : t = 128 := by omega
            have hc : cntp Q 128 = zeros Q := rfl
            rw [hc]
            rcases HFIN.out with ⟨hz1, hz2⟩ | ⟨hz1, hz2⟩
            · subst hz1
              rw [hz2]
              clear hz2 hc HEV HFIN
              go_wp2
              go_ret
              exact ⟨rfl, below_new hbR _⟩
            · subst hz1
              obtain ⟨V, hV⟩ : ∃ V, V = zeros Q := ⟨_, rfl⟩
              rw [← hV] at hz2
              rw [← hV]
              clear hV hc HEV HFIN
              go_wp2
              go_ret
              exact ⟨rfl, below_new hbR _⟩
  · go_enter Try.func4, Try.ntmps4
    go_wp2_with (first | (go_at_call 15; (with_reducible refine (on_base hb0 (fieldAwake_is _)).mono ?_); rintro e w1 ⟨rfl, hb1⟩; clear hb0) | (go_at_call 15; (with_reducible refine (on_base hb1 (fieldAwake_is _)).mono ?_); rintro e w2 ⟨rfl, hb2⟩))
    go_ret
    exact ⟨rfl, hb2⟩
end Go.Proofs.Ythponlnklmhbeaa
