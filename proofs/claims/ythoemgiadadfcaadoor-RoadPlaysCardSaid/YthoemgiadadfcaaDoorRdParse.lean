/- Acts read: the walk of Parse. -/
import Derived.Test.YthoemgiadadfcaaDoorRdLines
import Derived.RangeFuncBox
import Derived.Maps.AppendAt
set_option linter.unusedVariables false
set_option linter.unusedSimpArgs false
namespace Go.Proofs.YthoemgiadadfcaaDoor
open Go.RowKit Go.Sort Rd
attribute [local go_sem] Oper.semAt_some
namespace Rd
def goP : List (List UInt8) → Nat → List Ac → List Ac × Nat × Int
  | [], _, acc => (acc, 0, 0)
  | x :: xs, n, acc => if (lineP x).2 = 0 then goP xs (n + 1) (acc ++ [(lineP x).1]) else ([], n + 1, (lineP x).2)
def parseP (l : List UInt8) : List Ac × Nat × Int := if 8192 < l.length then ([], 0, 1) else goP (lns l) 0 []
end Rd
/-- What Parse leaves. -/
def Pd (w : World) (l : List UInt8) (e : Ending) (w' : World) : Prop := ∃ v, e = .returned (.tuple #[v, .int .i64 (parseP l).2.1, .int .i64 (parseP l).2.2]) ∧ Rw w' 50 4 ac v (parseP l).1 ∧ Below w.heap.size w w'
/-- wp_region_quiet_tail, within a round. -/
theorem wpIn_region_quiet_tail {P : Program} {id rl m : Nat} {Q : Exit → Act → World → Prop} {a : Act} {w : World} {l : List Oper} (n : Nat) (hm : P.follows .mixedOrders = true) (hB : Region.lexTailB .any l.toArray n = true) (hd : ∀ o ∈ l, ∀ c, o.op ≠ .defer c) (hq : ¬ LetsOut Q)
    (h : wpQuiet P l.toArray (fun w' => ∃ n, w' = w.drewN n) (fun a' => ∀ w', (∃ n, w' = w.drewN n) → wpList P l.toArray Q (l.drop n) a' w') (l.take n) a) : (Code.region id l.toArray true).wpIn (Fence.wide.inRound rl) m P Q a w := by
  simp only [Region.lexTailB, Bool.and_eq_true, decide_eq_true_eq] at hB
  obtain ⟨⟨⟨⟨hsel, hn⟩, hs⟩, hc⟩, hlex⟩ := hB
  have hn' : n < l.length := by simpa using hn
  have htl : (l.take n).length = n := by simp; omega
  have hdl : (l.drop n).length = l.toArray.size - n := by simp
  have inv0 : HeadInv .any l.toArray n (Array.replicate l.toArray.size false) :=
    ⟨by simp, fun j oj _ hl => (by rw [getD_replicate_false] at hl; cases hl), fun t _ ht => getD_in (by simpa using ht) (getD_replicate_false _ _)⟩
  have H := headAny_lex (md := .any) (g := l.toArray.size - n) hsel hs hc hn (l.take n) 0 _ a (fun j hj => by
    have hj' : j < n := by rw [htl] at hj; exact hj
    simp [hj']) (by simpa using htl) inv0 (by rw [htl]; exact hlex) h
  refine wpIn_region_any hm (wpAny_round (by simpa using hd) hq _ _ _ _ ?_)
  have := any_of_head (Q' := Q) (g := l.toArray.size - n) (C := fun w' => ∃ n, w' = w.drewN n) (fun done a' w' hw' hL => by
    have := wpAny_of_seq (md := .any) (Q' := Q) (l.drop n) n done a' w' (fun j => by simp [List.getElem?_drop]) (by rw [hdl]; exact hL.1) (hL.2 w' hw')
    rwa [hdl] at this) _ _ _ { w with drawn := w.drawn + 1 } ⟨1, rfl⟩ H
  rw [htl, show n + (l.toArray.size - n) = l.toArray.size by omega] at this
  exact this
/-- What Parse's own variables hold while lines are read. -/
structure Pk (k : Nat) (w W : World) (B : Nat) (pre : List ByteArray) (v : Value) : Prop where
  r2 : Boxed W B 33 (.slice none 0 0)
  r3 : Boxed W (B + 1) 3 (.int .i64 0)
  r4 : Boxed W (B + 1 + 1) 30 (.int .i64 0)
  out : Boxed W (B + 1 + 1 + 1) 33 v
  cnt : Boxed W (B + 1 + 1 + 1 + 1) 3 (.int .i64 k)
  src : ∃ u, Boxed W (B + 1 + 1 + 1 + 1 + 1) 9 u
  own : W.ownsRow w.heap.size 50 4 v pre.length ((pre.map fun x => (lineP x.data.toList).1).flatMap ac)
  bel : Below w.heap.size w W
  ok : ∀ x ∈ pre, (lineP x.data.toList).2 = 0
abbrev Ps (w W : World) (B : Nat) (pre : List ByteArray) (v : Value) : Prop := Pk pre.length w W B pre v
structure Px (w W : World) (B : Nat) (pre : List ByteArray) : Prop where
  r2 : Boxed W B 33 (.slice none 0 0)
  r3 : Boxed W (B + 1) 3 (.int .i64 pre.length)
  r4 : ∃ p x, pre = p ++ [x] ∧ (∀ y ∈ p, (lineP y.data.toList).2 = 0) ∧ (lineP x.data.toList).2 ≠ 0 ∧ Boxed W (B + 1 + 1) 30 (.int .i64 (lineP x.data.toList).2)
  bel : Below w.heap.size w W
theorem boxed_non {A : World} {B : Nat} {t : TypeId} {v : Value} (h : Boxed A B t v) {row : Option Nat} (hr : ∀ r, row = some r → ∃ o : Obj, A.heap[r]? = some o ∧ o.isCells = false) : some B ≠ row := fun e => by
  obtain ⟨o, h1, h2⟩ := hr B e.symm
  rw [show A.heap[B]? = _ from h] at h1
  cases h1
  cases h2
theorem own_non {A : World} {base : Nat} {e : TypeId} {k n : Nat} {v : Value} {xs : List Value} (h : A.ownsRow base e k v n xs) {A' : World} {row : Option Nat} (hg : A.grownBy A' row) (hr : ∀ r, row = some r → ∃ o : Obj, A.heap[r]? = some o ∧ o.isCells = false) : A'.ownsRow base e k v n xs := by
  refine ⟨h.1, ?_⟩
  rcases h.2 with hn | ⟨g, cap, cur, rfl, hb, hgg, rest⟩
  · exact .inl hn
  · refine .inr ⟨g, cap, cur, rfl, hb, (hg.block g (Array.getElem?_eq_some_iff.1 hgg).1 (fun e => ?_)).trans hgg, rest⟩
    obtain ⟨o, h1, h2⟩ := hr g e.symm
    rw [hgg] at h1
    cases h1
    cases h2
theorem own_cell {A : World} {base : Nat} {e t : TypeId} {k n b : Nat} {v u : Value} {xs : List Value} (h : A.ownsRow base e k v n xs) (hb : Boxed A b t u) (hne : e ≠ t) (u' : Value) : (A.setCell ⟨b, 0, none⟩ u').ownsRow base e k v n xs := by
  refine ⟨h.1, ?_⟩
  rcases h.2 with hn | ⟨g, cap, cur, rfl, hb2, hgg, rest⟩
  · exact .inl hn
  · refine .inr ⟨g, cap, cur, rfl, hb2, (Below.heap_setCell _ _ _ _ (fun e2 => ?_)).trans hgg, rest⟩
    have e3 : g = b := e2
    subst e3
    rw [show A.heap[g]? = _ from hb] at hgg
    injection hgg with h9
    injection h9 with _ h9
    exact hne h9.symm
theorem Ps.turns (w : World) (B D : Nat) (hB : w.heap.size ≤ B) (hD : w.heap.size ≤ D) : Turns (B + 1 + 1 + 1 + 1 + 1) D (fun pre W => ∃ v, Ps w W B pre v) := by
  constructor
  · rintro s A A' row ⟨v, h⟩ hg hr
    have hr' := fun r e => (hr r e).2
    refine ⟨v, h.r2.kept hg (boxed_non h.r2 hr'), h.r3.kept hg (boxed_non h.r3 hr'), h.r4.kept hg (boxed_non h.r4 hr'), h.out.kept hg (boxed_non h.out hr'), h.cnt.kept hg (boxed_non h.cnt hr'), ?_, own_non h.own hg hr', h.bel.grown hg h.bel.size (fun k e => Nat.le_trans hD (hr k e).1), h.ok⟩
    obtain ⟨u, hu⟩ := h.src
    exact ⟨u, hu.kept hg (boxed_non hu hr')⟩
  · rintro s A x ⟨v, h⟩
    obtain ⟨u, hu⟩ := h.src
    exact ⟨v, h.r2.other (by omega) _, h.r3.other (by omega) _, h.r4.other (by omega) _, h.out.other (by omega) _, h.cnt.other (by omega) _, ⟨x, hu.set x⟩, own_cell h.own hu (by decide) _, h.bel.setCell (p := ⟨B + 1 + 1 + 1 + 1 + 1, 0, none⟩) (by show _ ≤ B + 1 + 1 + 1 + 1 + 1; omega) _, h.ok⟩
theorem Px.turns (w : World) (B D : Nat) (hB : w.heap.size ≤ B) (hD : w.heap.size ≤ D) : Turns (B + 1 + 1 + 1 + 1 + 1) D (fun pre W => Px w W B pre) := by
  constructor
  · intro s A A' row h hg hr
    have hr' := fun r e => (hr r e).2
    obtain ⟨p, x, h1, h2, h3, h4⟩ := h.r4
    exact ⟨h.r2.kept hg (boxed_non h.r2 hr'), h.r3.kept hg (boxed_non h.r3 hr'), ⟨p, x, h1, h2, h3, h4.kept hg (boxed_non h4 hr')⟩, h.bel.grown hg h.bel.size (fun k e => Nat.le_trans hD (hr k e).1)⟩
  · intro s A v h
    obtain ⟨p, x, h1, h2, h3, h4⟩ := h.r4
    exact ⟨h.r2.other (by omega) _, h.r3.other (by omega) _, ⟨p, x, h1, h2, h3, h4.other (by omega) _⟩, h.bel.setCell (p := ⟨B + 1 + 1 + 1 + 1 + 1, 0, none⟩) (by show _ ≤ B + 1 + 1 + 1 + 1 + 1; omega) _⟩
/-- What a round leaves as it was. -/
structure Kq (Bs : Nat) (W W' : World) : Prop where
  oth : KeepsOthers W W'
  src : W'.heap[Bs]? = W.heap[Bs]?
theorem Kq.refl (Bs : Nat) (W : World) : Kq Bs W W := ⟨KeepsOthers.refl _, rfl⟩
theorem Kq.trans {Bs : Nat} {A B C : World} (h : Kq Bs A B) (h' : Kq Bs B C) : Kq Bs A C := ⟨h.oth.trans h'.oth, h'.src.trans h.src⟩
theorem Kq.below {Bs : Nat} {A B : World} (hb : Below A.heap.size A B) (hlt : Bs < A.heap.size) : Kq Bs A B := ⟨⟨hb.size, fun k o hk _ => (hb.block k (Array.getElem?_eq_some_iff.1 hk).1).trans hk⟩, hb.block Bs hlt⟩
theorem Kq.cell {Bs : Nat} (A : World) (b : Nat) (v : Value) (h : Bs ≠ b) : Kq Bs A (A.setCell ⟨b, 0, none⟩ v) := ⟨KeepsOthers.setCell _ _ _, heap_setCell_ne _ _ _ _ h⟩
section
variable {k : Nat} {w W W' : World} {B : Nat} {pre : List ByteArray} {v : Value}
theorem box_below {t : TypeId} {u : Value} {b : Nat} (h : Boxed W b t u) (hb : Below W.heap.size W W') : Boxed W' b t u := (hb.block b h.lt).trans h
theorem ownsRow_below {base : Nat} {e : TypeId} {q n : Nat} {u : Value} {xs : List Value} (h : W.ownsRow base e q u n xs) (hb : Below W.heap.size W W') : W'.ownsRow base e q u n xs := by
  refine ⟨h.1, ?_⟩
  rcases h.2 with hn | ⟨g, cap, cur, rfl, h1, hgg, rest⟩
  · exact .inl hn
  · exact .inr ⟨g, cap, cur, rfl, h1, (hb.block g (Array.getElem?_eq_some_iff.1 hgg).1).trans hgg, rest⟩
theorem own_shape {base : Nat} {e : TypeId} {q n : Nat} {u : Value} {xs : List Value} (h : W.ownsRow base e q u n xs) : ∃ a cap, u = .slice a n cap := by
  rcases h.2 with ⟨h1, h2⟩ | ⟨g, cap, cur, hv, _⟩
  · exact ⟨none, 0, by rw [h1, h2]⟩
  · exact ⟨_, cap, hv⟩
theorem Pk.count (h : Pk k w W B pre v) (hB : w.heap.size ≤ B) (k' : Nat) : Pk k' w (W.setCell ⟨B + 1 + 1 + 1 + 1, 0, none⟩ (.int .i64 k')) B pre v := by
  obtain ⟨u, hu⟩ := h.src
  exact ⟨h.r2.other (by omega) _, h.r3.other (by omega) _, h.r4.other (by omega) _, h.out.other (by omega) _, h.cnt.set _, ⟨u, hu.other (by omega) _⟩, own_cell h.own h.cnt (by decide) _, h.bel.setCell (p := ⟨B + 1 + 1 + 1 + 1, 0, none⟩) (by show _ ≤ B + 1 + 1 + 1 + 1; omega) _, h.ok⟩
theorem Pk.below (h : Pk k w W B pre v) (hb : Below W.heap.size W W') : Pk k w W' B pre v := by
  obtain ⟨u, hu⟩ := h.src
  exact ⟨box_below h.r2 hb, box_below h.r3 hb, box_below h.r4 hb, box_below h.out hb, box_below h.cnt hb, ⟨u, box_below hu hb⟩, ownsRow_below h.own hb, h.bel.trans (hb.mono h.bel.size), h.ok⟩
theorem Pk.err {q : Nat} {x : ByteArray} (h : Pk q w W B pre v) (hB : w.heap.size ≤ B) (hx : (lineP x.data.toList).2 ≠ 0) :
    Px w (((W.setCell ⟨B, 0, none⟩ (.slice none 0 0)).setCell ⟨B + 1, 0, none⟩ (.int .i64 ((pre ++ [x]).length : Nat))).setCell ⟨B + 1 + 1, 0, none⟩ (.int .i64 (lineP x.data.toList).2)) B (pre ++ [x]) :=
  ⟨((h.r2.set _).other (by omega) _).other (by omega) _, ((h.r3.other (by omega) _).set _).other (by omega) _, ⟨pre, x, rfl, h.ok, hx, ((h.r4.other (by omega) _).other (by omega) _).set _⟩,
    ((h.bel.setCell (p := ⟨B, 0, none⟩) hB _).setCell (p := ⟨B + 1, 0, none⟩) (by show _ ≤ B + 1; omega) _).setCell (p := ⟨B + 1 + 1, 0, none⟩) (by show _ ≤ B + 1 + 1; omega) _⟩
/-- A row put on, and stored. -/
theorem Pk.put {v' : Value} {x : ByteArray} (h : Pk (pre ++ [x]).length w W B pre v) (hB : w.heap.size ≤ B) (hx : (lineP x.data.toList).2 = 0) (hg : W.grownBy W' v.ownBlock) (ho : W'.ownsRow w.heap.size 50 4 v' (pre.length + 1) ((pre.map fun x => (lineP x.data.toList).1).flatMap ac ++ ac (lineP x.data.toList).1)) :
    Boxed W' (B + 1 + 1 + 1) 33 v ∧ Ps w (W'.setCell ⟨B + 1 + 1 + 1, 0, none⟩ v') B (pre ++ [x]) v' ∧ Kq (B + 1 + 1 + 1 + 1 + 1) W (W'.setCell ⟨B + 1 + 1 + 1, 0, none⟩ v') := by
  obtain ⟨u, hu⟩ := h.src
  have nr : ∀ {b : Nat} {t : TypeId} {u : Value}, Boxed W b t u → t ≠ 50 → some b ≠ v.ownBlock := fun hb ht => hb.not_row ht h.own
  have hout := h.out.kept hg (nr h.out (by decide))
  have hcells : ∀ (j : Nat) (o : Obj), v.ownBlock = some j → W.heap[j]? = some o → o.isCells = true := fun j o hj ho2 => by
    rcases h.own.2 with ⟨h9, _⟩ | ⟨g, cap, cur, h9, _, hgg, _⟩
    · rw [h9] at hj; cases hj
    · rw [h9] at hj
      obtain rfl : g = j := by injection hj
      rw [hgg] at ho2
      obtain rfl := Option.some.inj ho2
      rfl
  have hbel : Below w.heap.size w W' := h.bel.grown hg h.bel.size (fun j hj => by
    rcases h.own.2 with ⟨h9, _⟩ | ⟨g, cap, cur, h9, hbase, hgg, _⟩
    · rw [h9] at hj; cases hj
    · rw [h9] at hj
      obtain rfl : g = j := by injection hj
      exact hbase)
  refine ⟨hout, ⟨(h.r2.kept hg (nr h.r2 (by decide))).other (by omega) _, (h.r3.kept hg (nr h.r3 (by decide))).other (by omega) _, (h.r4.kept hg (nr h.r4 (by decide))).other (by omega) _, hout.set _, (h.cnt.kept hg (nr h.cnt (by decide))).other (by omega) _, ⟨u, (hu.kept hg (nr hu (by decide))).other (by omega) _⟩, ?_, hbel.setCell (p := ⟨B + 1 + 1 + 1, 0, none⟩) (by show _ ≤ B + 1 + 1 + 1; omega) _, fun y hy => ?_⟩, ⟨(KeepsOthers.of_grownBy hg hcells).trans (KeepsOthers.setCell _ _ _), ?_⟩⟩
  · have h9 := own_cell ho hout (by decide) v'
    rw [List.map_append, List.flatMap_append, List.length_append]
    simpa using h9
  · rcases List.mem_append.1 hy with h9 | h9
    · exact h.ok y h9
    · rw [List.mem_singleton] at h9; subst h9; exact hx
  · rw [heap_setCell_ne _ _ _ _ (by omega)]
    exact hg.block _ hu.lt (nr hu (by decide))
end
theorem lns_mem : ∀ (l p : List UInt8), p ∈ lns l → p.length ≤ l.length
  | [], p, h => by simp [lns] at h
  | b :: l, p, h => by
    unfold lns at h
    split at h
    · rcases List.mem_cons.1 h with rfl | h
      · simp
      · have := lns_mem l p h; simp; omega
    · split at h
      · rename_i h1 t1 he
        rcases List.mem_cons.1 h with rfl | h
        · have := lns_mem l h1 (by rw [he]; simp); simp; omega
        · have := lns_mem l p (by rw [he]; exact List.mem_cons_of_mem _ h); simp; omega
      · simp at h; subst h; simp
theorem lns_length : ∀ l : List UInt8, (lns l).length ≤ l.length
  | [] => by simp [lns]
  | b :: l => by
    have := lns_length l
    unfold lns
    split
    · simp; omega
    · split
      · rename_i h1 t1 he; rw [he] at this; simp at this ⊢; omega
      · simp
theorem goP_all : ∀ (xs : List (List UInt8)) (n : Nat) (acc : List Ac), (∀ x ∈ xs, (lineP x).2 = 0) → goP xs n acc = (acc ++ xs.map fun x => (lineP x).1, 0, 0)
  | [], n, acc, _ => by simp [goP]
  | x :: xs, n, acc, h => by
    rw [goP, if_pos (h x (by simp)), goP_all xs _ _ (fun y hy => h y (List.mem_cons_of_mem _ hy))]
    simp
theorem goP_err : ∀ (p : List (List UInt8)) (x : List UInt8) (r : List (List UInt8)) (n : Nat) (acc : List Ac), (∀ y ∈ p, (lineP y).2 = 0) → (lineP x).2 ≠ 0 → goP (p ++ x :: r) n acc = ([], n + (p.length + 1), (lineP x).2)
  | [], x, r, n, acc, _, hx => by
    rw [List.nil_append, goP, if_neg hx]; rfl
  | y :: p, x, r, n, acc, h, hx => by
    rw [List.cons_append, goP, if_pos (h y (by simp)), goP_err p x r _ _ (fun z hz => h z (List.mem_cons_of_mem _ hz)) hx]
    simp only [List.length_cons]
    rw [show n + 1 + (p.length + 1) = n + (p.length + 1 + 1) by omega]
theorem results_cell3 {P : Program} {fn : Func} {p1 p2 p3 : Tmp} {t1 t2 t3 : TypeId} (h : fn.results = #[.cell p1 t1, .cell p2 t2, .cell p3 t3]) (tmps : Array Value) (w : World) (a1 a2 a3 : Addr)
    (h1 : tmps.getD p1 undef = .pointer (some a1)) (h2 : tmps.getD p2 undef = .pointer (some a2)) (h3 : tmps.getD p3 undef = .pointer (some a3)) (v1 v2 v3 : Value)
    (l1 : (loadVar t1 a1).run P w = .ok v1 w) (l2 : (loadVar t2 a2).run P w = .ok v2 w) (l3 : (loadVar t3 a3).run P w = .ok v3 w) : (results fn tmps).run P w = .ok (.tuple #[v1, v2, v3]) w := by
  have h1' : tmps[p1]?.getD undef = .pointer (some a1) := by simpa using h1
  have h2' : tmps[p2]?.getD undef = .pointer (some a2) := by simpa using h2
  have h3' : tmps[p3]?.getD undef = .pointer (some a3) := by simpa using h3
  simp [results, h, h1', h2', h3', asAddr, l1, l2, l3]
theorem load33 {w : World} {b : Nat} {v : Value} (h : Boxed w b 33 v) : (loadVar 33 ⟨b, 0, none⟩).run Tryd.prog w = .ok v w := by
  have hc := h.cell
  simp [go_sem, hc]
theorem load3 {w : World} {b : Nat} {v : Value} (h : Boxed w b 3 v) : (loadVar 3 ⟨b, 0, none⟩).run Tryd.prog w = .ok v w := by
  have hc := h.cell
  simp [go_sem, hc]
theorem load30 {w : World} {b : Nat} {v : Value} (h : Boxed w b 30 v) : (loadVar 30 ⟨b, 0, none⟩).run Tryd.prog w = .ok v w := by
  have hc := h.cell
  simp [go_sem, hc]
theorem own_base {A : World} {base : Nat} {e : TypeId} {q n : Nat} {u : Value} {xs : List Value} (h : A.ownsRow base e q u n xs) : A.ownsRow 0 e q u n xs := by
  refine ⟨h.1, ?_⟩
  rcases h.2 with hn | ⟨g, cap, cur, rfl, h1, rest⟩
  · exact .inl hn
  · exact .inr ⟨g, cap, cur, rfl, Nat.zero_le _, rest⟩
theorem parse_ok (l : List UInt8) (hl : l.length ≤ 8192) (h : ∀ x ∈ lns l, (lineP x).2 = 0) : parseP l = ((lns l).map fun x => (lineP x).1, 0, 0) := by
  unfold parseP
  rw [if_neg (by omega), goP_all _ _ _ h]; rfl
theorem parse_err (l : List UInt8) (hl : l.length ≤ 8192) (p : List (List UInt8)) (x : List UInt8) (r : List (List UInt8)) (he : lns l = p ++ x :: r) (h : ∀ y ∈ p, (lineP y).2 = 0) (hx : (lineP x).2 ≠ 0) : parseP l = ([], p.length + 1, (lineP x).2) := by
  unfold parseP
  rw [if_neg (by omega), he, goP_err _ _ _ _ _ h hx, Nat.zero_add]
theorem news_two (W : World) (y : Ac) : ∀ j u, (ac y)[j]? = some u → ((W.alloc (.cells #[.string y.w, .int .i64 y.a, .int .i64 y.b, .int .i64 y.c] 50)).alloc (.cells #[.string y.w, .int .i64 y.a, .int .i64 y.b, .int .i64 y.c] 50)).cell? ((⟨W.heap.size + 1, 0, none⟩ : Addr).add j) = some u := by
  have h := World.news_of_block (cs := #[.string y.w, .int .i64 y.a, .int .i64 y.b, .int .i64 y.c]) (t := 50) (fr := (0, 0)) (heap_alloc_new (W.alloc (.cells #[.string y.w, .int .i64 y.a, .int .i64 y.b, .int .i64 y.c] 50)) (.cells #[.string y.w, .int .i64 y.a, .int .i64 y.b, .int .i64 y.c] 50))
  rw [World.size_alloc] at h
  exact h
set_option maxRecDepth 100000 in
set_option maxHeartbeats 3200000 in
theorem parse_is (s : ByteArray) (w : World) (hm : Mx w) (hs : s.size ≤ 8192) : Calls Tryd.prog 17 #[.string s] w (Pd w s.data.toList) := by
  have hh1 : (1 : Nat) ≤ 10 := by omega
  have hs9 : ¬ (8192 : Int) < (s.size : Int) := by omega
  refine (callsIn_wide (n := 10)).1 ?_
  refine callsIn_of_wp_marks Tryd.func17 rfl trivial ?_ rfl
  simp only [Tryd.ntmps17, List.size_toArray, List.length_cons, List.length_nil, Nat.reduceAdd, Nat.reduceSub, Array.replicate_succ, Array.replicate_zero, List.push_toArray, List.append_toArray, List.nil_append, List.cons_append]
  gi_wp2_with (refine ⟨trivial, ?_⟩; gi_at_call 26; refine (callsIn_wide.2 (lines_is _ _)).mono ?_; rintro e w9 ⟨rfl, rfl⟩)
  obtain ⟨B, hBw⟩ : ∃ B, B = w.heap.size := ⟨_, rfl⟩
  obtain ⟨W0, hW0⟩ : ∃ W0, W0 = (((((w.alloc (.cells #[.slice none 0 0] 33)).alloc (.cells #[.int .i64 0] 3)).alloc (.cells #[.int .i64 0] 30)).alloc (.cells #[.slice none 0 0] 33)).alloc (.cells #[.int .i64 0] 3)).alloc (.cells #[.string s] 9) := ⟨_, rfl⟩
  have hsrc : W0.heap[B + 1 + 1 + 1 + 1 + 1]? = some (.cells #[.string (str s.data.toList)] 9 (0, 0)) := by
    rw [str_data, hW0, hBw]
    have := heap_alloc_new (((((w.alloc (.cells #[.slice none 0 0] 33)).alloc (.cells #[.int .i64 0] 3)).alloc (.cells #[.int .i64 0] 30)).alloc (.cells #[.slice none 0 0] 33)).alloc (.cells #[.int .i64 0] 3)) (.cells #[.string s] 9)
    simpa using this
  have hbel : Below w.heap.size w W0 := by
    rw [hW0]
    exact ((((((Below.refl _ w).alloc (Nat.le_refl _) _).alloc (by simp <;> omega) _).alloc (by simp <;> omega) _).alloc (by simp <;> omega) _).alloc (by simp <;> omega) _).alloc (by simp <;> omega) _
  have hsz : W0.heap.size = B + 6 := by rw [hW0, hBw]; simp
  have hP0 : Ps w W0 B [] (.slice none 0 0) := by
    refine ⟨?_, ?_, ?_, ?_, ?_, ⟨_, hsrc⟩, World.ownsRow_nil _ _ _ _, hbel, by simp⟩
    · rw [hW0, hBw]
      exact (((((Boxed.new w 33 (.slice none 0 0)).alloc _).alloc _).alloc _).alloc _).alloc _
    · rw [hW0, hBw]
      have h := Boxed.new (w.alloc (.cells #[.slice none 0 0] 33)) 3 (.int .i64 0)
      rw [World.size_alloc] at h
      exact (((h.alloc _).alloc _).alloc _).alloc _
    · rw [hW0, hBw]
      have h := Boxed.new ((w.alloc (.cells #[.slice none 0 0] 33)).alloc (.cells #[.int .i64 0] 3)) 30 (.int .i64 0)
      rw [World.size_alloc, World.size_alloc] at h
      exact ((h.alloc _).alloc _).alloc _
    · rw [hW0, hBw]
      have h := Boxed.new (((w.alloc (.cells #[.slice none 0 0] 33)).alloc (.cells #[.int .i64 0] 3)).alloc (.cells #[.int .i64 0] 30)) 33 (.slice none 0 0)
      rw [World.size_alloc, World.size_alloc, World.size_alloc] at h
      exact (h.alloc _).alloc _
    · rw [hW0, hBw]
      have h := Boxed.new ((((w.alloc (.cells #[.slice none 0 0] 33)).alloc (.cells #[.int .i64 0] 3)).alloc (.cells #[.int .i64 0] 30)).alloc (.cells #[.slice none 0 0] 33)) 3 (.int .i64 0)
      rw [World.size_alloc, World.size_alloc, World.size_alloc, World.size_alloc] at h
      exact h.alloc _
  rw [← hW0]
  have hlen9 : s.data.toList.length ≤ 8192 := by rw [Array.length_toList]; exact hs
  have HLN := Lib.hid hlen9
  have HM := Lib.hid hm
  have hseq := lines_gives (10 - 1) (by omega) (B + 1 + 1 + 1 + 1 + 1) s.data.toList (by omega) W0 hsrc
  obtain ⟨L, hL⟩ : ∃ L, L = (lns s.data.toList).map str := ⟨_, rfl⟩
  rw [← hL] at hseq
  have HL := Lib.hid hL
  clear hW0 hL hsrc hbel hm hlen9
  subst hBw
  refine wpIn_range_own hh1 (gf := 35) (lb := #[.pointer (some ⟨w.heap.size + 1 + 1 + 1 + 1 + 1, 0, none⟩)]) rfl (enters_of Tryd.func35 (by kernel_rfl) rfl) Value.string rfl (w.heap.size + 1 + 1 + 1 + 1 + 1) (by omega) L hseq
    (fun pre W => ∃ v, Ps w W w.heap.size pre v) (fun pre W => Px w W w.heap.size pre) (Ps.turns w w.heap.size _ (by omega) (by omega)) (Px.turns w w.heap.size _ (by omega) (by omega)) ⟨_, hP0⟩
    (fun x => ⟨#[.string s, undef, .pointer (some ⟨w.heap.size, 0, none⟩), .pointer (some ⟨w.heap.size + 1, 0, none⟩), .pointer (some ⟨w.heap.size + 1 + 1, 0, none⟩), .pointer (some ⟨w.heap.size + 1 + 1 + 1, 0, none⟩), .pointer (some ⟨w.heap.size + 1 + 1 + 1 + 1, 0, none⟩), .string x, undef, undef, .string s, .int .i64 s.size, .bool false, .string s, .func (.func 35) #[] #[.pointer (some ⟨w.heap.size + 1 + 1 + 1 + 1 + 1, 0, none⟩)], .string x, undef, undef, undef, undef, undef, undef, undef, undef, undef, undef, undef, undef, undef, undef, undef, undef], []⟩) ?assign ?body ?done ?stop
  case assign =>
    intro l x W K hK
    gi_wp2
    exact hK
  case body =>
    rintro l pre x W ⟨v, hP⟩ hpx
    have hxL : x ∈ L := hpx.subset (by simp)
    have hpl : pre.length + 1 ≤ 8192 := by
      have h1 := hpx.length_le
      rw [HL.out, List.length_map] at h1
      have h2 := lns_length s.data.toList
      have := HLN.out
      simp at h1
      omega
    have hxs : x.size ≤ 10000 := by
      rw [HL.out] at hxL
      obtain ⟨p, hp, rfl⟩ := List.mem_map.1 hxL
      have h1 := lns_mem _ _ hp
      have := HLN.out
      rw [str_size]; omega
    obtain ⟨va, vcap, rfl⟩ := own_shape hP.own
    have hP2 := hP.count (Nat.le_refl _) (pre ++ [x]).length
    have hq := line_is x _ (HM.out.below hP2.bel) hxs
    have HK1 : Hid (Kq (w.heap.size + 1 + 1 + 1 + 1 + 1) W (W.setCell ⟨w.heap.size + 1 + 1 + 1 + 1, 0, none⟩ (.int .i64 (((pre ++ [x]).length : Nat) : Int)))) := Kq.cell W _ _ (by omega)
    have hpln : (((pre ++ [x]).length : Nat) : Int) = (pre.length : Int) + 1 := by simp
    rw [hpln] at hP2 hq HK1
    have HPLN := Lib.hid hpln
    clear hpln
    have c6 := hP.cnt.cell
    have f6 := hP.cnt.frozen
    have HP2 := Lib.hid hP2
    have hsl : Hid (w.heap.size + 1 + 1 + 1 + 1 + 1 < (W.setCell ⟨w.heap.size + 1 + 1 + 1 + 1, 0, none⟩ (.int .i64 ((pre.length : Int) + 1))).heap.size) := by
      obtain ⟨u, hu⟩ := hP2.src
      exact hu.lt
    obtain ⟨⟨yw, ya, yb, yc⟩, hy⟩ : ∃ y : Ac, y = (lineP x.data.toList).1 := ⟨_, rfl⟩
    have HYE := Lib.hid hy
    rw [← hy] at hq
    clear hy
    have hq : Calls Tryd.prog 27 #[.string x] (W.setCell ⟨w.heap.size + 1 + 1 + 1 + 1, 0, none⟩ (.int .i64 ((pre.length : Int) + 1))) fun e w' => e = .returned (.tuple #[.agg #[.string yw, .int .i64 ya, .int .i64 yb, .int .i64 yc], .int .i64 (lineP x.data.toList).2]) ∧ Below (W.setCell ⟨w.heap.size + 1 + 1 + 1 + 1, 0, none⟩ (.int .i64 ((pre.length : Int) + 1))).heap.size (W.setCell ⟨w.heap.size + 1 + 1 + 1 + 1, 0, none⟩ (.int .i64 ((pre.length : Int) + 1))) w' := hq
    by_cases he : (lineP x.data.toList).2 = 0
    · have HE := Lib.hid he
      rw [he] at hq
      obtain ⟨i0, hin, hzz⟩ := Option.map_eq_some_iff.1 info50
      simp only [Prod.mk.injEq] at hzz
      have HI50 := Lib.hid (And.intro hin hzz)
      have hple : pre.length ≤ 8191 := by omega
      have HPUT : Hid (∀ (W3 : World) (v' : Value) (w6 : World), Pk (pre ++ [x]).length w W3 w.heap.size pre (.slice va pre.length vcap) →
          ((W3.alloc (.cells #[.string yw, .int .i64 ya, .int .i64 yb, .int .i64 yc] 50)).alloc (.cells #[.string yw, .int .i64 ya, .int .i64 yb, .int .i64 yc] 50)).grownBy w6 (Value.slice va pre.length vcap).ownBlock →
          w6.ownsRow w.heap.size 50 4 v' (pre.length + 1) ((pre.map fun x => (lineP x.data.toList).1).flatMap ac ++ ac ⟨yw, ya, yb, yc⟩) →
          Boxed w6 (w.heap.size + 1 + 1 + 1) 33 (.slice va pre.length vcap) ∧ Ps w (w6.setCell ⟨w.heap.size + 1 + 1 + 1, 0, none⟩ v') w.heap.size (pre ++ [x]) v' ∧ Kq (w.heap.size + 1 + 1 + 1 + 1 + 1) W3 (w6.setCell ⟨w.heap.size + 1 + 1 + 1, 0, none⟩ v')) := fun W3 v' w6 h3 hg ho => by
        have b1 : Below W3.heap.size W3 (W3.alloc (.cells #[.string yw, .int .i64 ya, .int .i64 yb, .int .i64 yc] 50)) := (Below.refl _ _).alloc (Nat.le_refl _) _
        have b2 := b1.alloc (by simp) (.cells #[.string yw, .int .i64 ya, .int .i64 yb, .int .i64 yc] 50)
        obtain ⟨q1, q2, q3⟩ := (h3.below b2).put (Nat.le_refl _) HE.out hg (by rw [← HYE.out]; exact ho)
        obtain ⟨u, hu⟩ := h3.src
        exact ⟨q1, q2, (Kq.below b2 hu.lt).trans q3⟩
      clear hP hP2 he hxL hpx hin hzz hpl
      gi_wp2_with (first | (refine ⟨trivial, ?_⟩; gi_at_call 27; refine (CallsIn.inRound l (callsIn_wide.2 hq)).mono ?_; rintro e W3 ⟨rfl, hb3⟩; have hP3 := HP2.out.below hb3; have c5 := hP3.out.cell; have l5 := hP3.out.lt; have HP3 := Lib.hid hP3; have HB3 := Lib.hid hb3; clear hq hP3 hb3) | (gi_at_builtin; refine wpListIn_append_own _ rfl _ _ 33 rfl w.heap.size 50 i0 _ 4 40 Tryd.underlying33 HI50.out.1 HI50.out.2.1 HI50.out.2.2.1 HI50.out.2.2.2 rfl (by decide) _ _ _ rfl ((HP3.out.own.alloc _).alloc _) ⟨W3.heap.size + 1, 0, none⟩ 1 1 (ac ⟨yw, ya, yb, yc⟩) rfl rfl (news_two W3 ⟨yw, ya, yb, yc⟩) (ac_one _) (by simp only [maxLen]; omega) (by omega) (by have := HP3.out.bel.size; simp; omega) ?_; intro v' w6 ho6 hg6 _; obtain ⟨vb, vcap2, rfl⟩ := own_shape ho6; obtain ⟨q1, q2, q3⟩ := HPUT.out _ _ _ HP3.out hg6 ho6; have m5 := q1.cell; have n5 := q1.frozen; have Q2 := Lib.hid q2; have Q3 := Lib.hid q3; clear ho6 hg6 q1 q2 q3 c5 l5))
      have hk := HK1.out.trans ((Kq.below HB3.out hsl.out).trans Q3.out)
      exact ⟨hk.oth, hk.src, _, Q2.out⟩
    · have he0 : ((lineP x.data.toList).2 != 0) = true := by simpa using he
      have HE := Lib.hid he
      have HERR : Hid (∀ (W3 : World) (nq : Nat), Pk (pre ++ [x]).length w W3 w.heap.size pre (.slice va pre.length vcap) →
          Px w (((((W3.alloc (.cells #[.string yw, .int .i64 ya, .int .i64 yb, .int .i64 yc] 50)).drewN nq).setCell ⟨w.heap.size, 0, none⟩ (.slice none 0 0)).setCell ⟨w.heap.size + 1, 0, none⟩ (.int .i64 ((pre.length : Int) + 1))).setCell ⟨w.heap.size + 1 + 1, 0, none⟩ (.int .i64 (lineP x.data.toList).2)) w.heap.size (pre ++ [x]) ∧
          KeepsOthers W3 (((((W3.alloc (.cells #[.string yw, .int .i64 ya, .int .i64 yb, .int .i64 yc] 50)).drewN nq).setCell ⟨w.heap.size, 0, none⟩ (.slice none 0 0)).setCell ⟨w.heap.size + 1, 0, none⟩ (.int .i64 ((pre.length : Int) + 1))).setCell ⟨w.heap.size + 1 + 1, 0, none⟩ (.int .i64 (lineP x.data.toList).2))) := fun W3 nq h3 => by
        have b1 : Below W3.heap.size W3 ((W3.alloc (.cells #[.string yw, .int .i64 ya, .int .i64 yb, .int .i64 yc] 50)).drewN nq) := ((Below.refl W3.heap.size W3).alloc (Nat.le_refl _) _).trans ⟨rfl, rfl, rfl, Nat.le_refl _, fun _ _ => rfl⟩
        have h4 := (h3.below b1).err (x := x) (Nat.le_refl _) he
        rw [HPLN.out] at h4
        obtain ⟨u, hu⟩ := h3.src
        exact ⟨h4, ((((Kq.below b1 hu.lt).oth.trans (KeepsOthers.setCell _ _ _)).trans (KeepsOthers.setCell _ _ _)).trans (KeepsOthers.setCell _ _ _))⟩
      clear hP hP2 he hxL hpx
      gi_wp2_with (refine ⟨trivial, ?_⟩; gi_at_call 27; refine (CallsIn.inRound l (callsIn_wide.2 hq)).mono ?_; rintro e W3 ⟨rfl, hb3⟩; have hP3 := HP2.out.below hb3; have c3 := hP3.cnt.cell; rw [HPLN.out] at c3; have l3 := hP3.cnt.lt; have d2 := hP3.r2.cell; have d2f := hP3.r2.frozen; have d2l := hP3.r2.lt; have d3 := hP3.r3.cell; have d3f := hP3.r3.frozen; have d3l := hP3.r3.lt; have d4 := hP3.r4.cell; have d4f := hP3.r4.frozen; have d4l := hP3.r4.lt; have HP3 := Lib.hid hP3; have HB3 := Lib.hid hb3; clear hq hP3 hb3)
      obtain ⟨S0, hS0⟩ : ∃ S0, S0 = (W3.alloc (.cells #[.string yw, .int .i64 ya, .int .i64 yb, .int .i64 yc] 50)).drew := ⟨_, rfl⟩
      have hE := HERR.out W3 1 HP3.out
      have hS0' : (W3.alloc (.cells #[.string yw, .int .i64 ya, .int .i64 yb, .int .i64 yc] 50)).drewN 1 = S0 := hS0.symm
      rw [hS0'] at hE
      have hP0 : Pk (pre ++ [x]).length w S0 w.heap.size pre (.slice va pre.length vcap) := by
        rw [hS0]
        exact HP3.out.below (((Below.refl W3.heap.size W3).alloc (Nat.le_refl _) _).trans ⟨rfl, rfl, rfl, Nat.le_refl _, fun _ _ => rfl⟩)
      obtain ⟨S1, hS1⟩ : ∃ S1, S1 = S0.setCell ⟨w.heap.size, 0, none⟩ (.slice none 0 0) := ⟨_, rfl⟩
      obtain ⟨S2, hS2⟩ : ∃ S2, S2 = S1.setCell ⟨w.heap.size + 1, 0, none⟩ (.int .i64 ((pre.length : Int) + 1)) := ⟨_, rfl⟩
      obtain ⟨S3, hS3⟩ : ∃ S3, S3 = S2.setCell ⟨w.heap.size + 1 + 1, 0, none⟩ (.int .i64 (lineP x.data.toList).2) := ⟨_, rfl⟩
      rw [← hS1, ← hS2, ← hS3] at hE
      have cnt0 := hP0.cnt
      have r30 := hP0.r3
      have r40 := hP0.r4
      have cnt1 : Boxed S1 (w.heap.size + 1 + 1 + 1 + 1) 3 (.int .i64 ((pre ++ [x]).length : Nat)) := by rw [hS1]; exact cnt0.other (by omega) _
      have r31 : Boxed S1 (w.heap.size + 1) 3 (.int .i64 0) := by rw [hS1]; exact r30.other (by omega) _
      have r41 : Boxed S1 (w.heap.size + 1 + 1) 30 (.int .i64 0) := by rw [hS1]; exact r40.other (by omega) _
      have cnt2 : Boxed S2 (w.heap.size + 1 + 1 + 1 + 1) 3 (.int .i64 ((pre ++ [x]).length : Nat)) := by rw [hS2]; exact cnt1.other (by omega) _
      have r42 : Boxed S2 (w.heap.size + 1 + 1) 30 (.int .i64 0) := by rw [hS2]; exact r41.other (by omega) _
      have cnt3 : Boxed S3 (w.heap.size + 1 + 1 + 1 + 1) 3 (.int .i64 ((pre ++ [x]).length : Nat)) := by rw [hS3]; exact cnt2.other (by omega) _
      rw [HPLN.out] at cnt0 cnt1 cnt2 cnt3
      have HC := Lib.hid (And.intro cnt0 (And.intro cnt1 (And.intro cnt2 cnt3)))
      have H2 := Lib.hid hP0.r2
      have H3 := Lib.hid r31
      have H4 := Lib.hid r42
      have HS0 := Lib.hid hS0
      have HS1 := Lib.hid hS1
      have HS2 := Lib.hid hS2
      have HS3 := Lib.hid hS3
      have HEE := Lib.hid hE
      clear hS0' hE hP0 cnt0 cnt1 cnt2 cnt3 r30 r40 r31 r41 r42 hS0 hS1 hS2 hS3 c3 l3 d2 d2f d2l d3 d3f d3l d4 d4f d4l
      obtain ⟨I, hI⟩ : ∃ I : (Nat → Bool) → Act → World → Prop, ∀ dn ac wc, I dn ac wc ↔ ∃ s25 s26, ac = ⟨#[.string s, undef, .pointer (some ⟨w.heap.size, 0, none⟩), .pointer (some ⟨w.heap.size + 1, 0, none⟩), .pointer (some ⟨w.heap.size + 1 + 1, 0, none⟩), .pointer (some ⟨w.heap.size + 1 + 1 + 1, 0, none⟩), .pointer (some ⟨w.heap.size + 1 + 1 + 1 + 1, 0, none⟩), .string x, .pointer (some ⟨W3.heap.size, 0, none⟩), .int .i64 (lineP x.data.toList).2, .string s, .int .i64 s.size, .bool false, .string s, .func (.func 35) #[] #[.pointer (some ⟨w.heap.size + 1 + 1 + 1 + 1 + 1, 0, none⟩)], .string x, .int .i64 pre.length, .int .i64 ((pre.length : Int) + 1), .tuple #[.agg #[.string yw, .int .i64 ya, .int .i64 yb, .int .i64 yc], .int .i64 (lineP x.data.toList).2], .string x, .tuple #[.agg #[.string yw, .int .i64 ya, .int .i64 yb, .int .i64 yc], .int .i64 (lineP x.data.toList).2], .agg #[.string yw, .int .i64 ya, .int .i64 yb, .int .i64 yc], .int .i64 (lineP x.data.toList).2, .int .i64 (lineP x.data.toList).2, .bool true, s25, s26, undef, undef, undef, undef, undef], []⟩ ∧
        (dn 0 = true → s25 = .int .i64 ((pre.length : Int) + 1)) ∧ (dn 1 = true → s26 = .int .i64 (lineP x.data.toList).2) ∧ wc = (if dn 4 = true then S3 else if dn 3 = true then S2 else if dn 2 = true then S1 else S0) ∧ (dn 3 = true → dn 2 = true) ∧ (dn 4 = true → dn 3 = true) := ⟨_, fun _ _ _ => Iff.rfl⟩
      have HI := Lib.hid hI
      clear hI
      refine wpIn_region_inv (by kernel_rfl) (by kernel_rfl) (by simp) (by rintro ⟨_, _, h⟩; exact h) I ?_ ?_ ?_
      · exact (HI.out _ _ _).2 ⟨_, _, rfl, (fun h => by cases h), (fun h => by cases h), HS0.out.symm, (fun h => by cases h), (fun h => by cases h)⟩
      · intro i o dn ac wc ho hd hdep hIn
        obtain ⟨s25, s26, rfl, h0, h1, hw, m3, m4⟩ := (HI.out _ _ _).1 hIn
        clear hIn
        rcases i with _ | _ | _ | _ | _ | i
        · obtain rfl := Option.some.inj ho
          have l0 : wc.cell? ⟨w.heap.size + 1 + 1 + 1 + 1, 0, none⟩ = some (.int .i64 ((pre.length : Int) + 1)) := by
            obtain ⟨q0, q1, q2, q3⟩ := HC.out
            rw [hw]
            split
            · exact q3.cell
            · split
              · exact q2.cell
              · split
                · exact q1.cell
                · exact q0.cell
          have HR := Lib.hid (And.intro h1 (And.intro hw (And.intro m3 m4)))
          clear h0 h1 hw m3 m4 hdep
          refine .inl ?_
          unfold Oper.wp
          go_simp
          obtain ⟨h1, hw, m3, m4⟩ := HR.out
          exact (HI.out (also dn 0) _ _).2 ⟨_, _, rfl, fun _ => rfl, h1, hw, m3, m4⟩
        · obtain rfl := Option.some.inj ho
          have HR := Lib.hid (And.intro h0 (And.intro hw (And.intro m3 m4)))
          clear h0 h1 hw m3 m4 hdep
          refine .inl ?_
          unfold Oper.wp
          go_simp
          obtain ⟨h0, hw, m3, m4⟩ := HR.out
          exact (HI.out (also dn 1) _ _).2 ⟨_, _, rfl, h0, fun _ => rfl, hw, m3, m4⟩
        · obtain rfl := Option.some.inj ho
          have e3 : dn 3 = false := by cases h : dn 3 with | false => rfl | true => rw [m3 h] at hd; cases hd
          have e4 : dn 4 = false := by cases h : dn 4 with | false => rfl | true => rw [m4 h] at e3; cases e3
          rw [e4, e3, hd] at hw
          obtain rfl : wc = S0 := hw
          have l0 := H2.out.cell
          have f0 := H2.out.frozen
          have HR := Lib.hid (And.intro h0 (And.intro h1 (And.intro m3 (And.intro m4 (And.intro e3 e4)))))
          clear h0 h1 m3 m4 hdep e3 e4
          refine .inl ?_
          unfold Oper.wp
          go_simp
          obtain ⟨h0, h1, m3, m4, e3, e4⟩ := HR.out
          exact (HI.out (also dn 2) _ _).2 ⟨_, _, rfl, h0, h1, by rw [also_ne dn (show 4 ≠ 2 by decide), also_ne dn (show 3 ≠ 2 by decide), e4, e3, also_self]; exact HS1.out.symm, fun _ => also_self _ _, by rw [also_ne dn (show 4 ≠ 2 by decide), also_ne dn (show 3 ≠ 2 by decide)]; exact m4⟩
        · obtain rfl := Option.some.inj ho
          have i2 := hdep ⟨2, .chain⟩ (by simp) rfl
          have e25 := h0 (hdep ⟨0, .data⟩ (by simp) rfl)
          subst e25
          have e4 : dn 4 = false := by cases h : dn 4 with | false => rfl | true => rw [m4 h] at hd; cases hd
          rw [e4, hd, i2] at hw
          obtain rfl : wc = S1 := hw
          have l0 := H3.out.cell
          have f0 := H3.out.frozen
          have HR := Lib.hid (And.intro h0 (And.intro h1 (And.intro m3 (And.intro m4 (And.intro i2 e4)))))
          clear h0 h1 m3 m4 hdep i2 e4
          refine .inl ?_
          unfold Oper.wp
          go_simp
          obtain ⟨h0, h1, m3, m4, i2, e4⟩ := HR.out
          exact (HI.out (also dn 3) _ _).2 ⟨_, _, rfl, h0, h1, by rw [also_ne dn (show 4 ≠ 3 by decide), e4, also_self]; exact HS2.out.symm, fun _ => by rw [also_ne dn (show 2 ≠ 3 by decide)]; exact i2, fun _ => also_self _ _⟩
        · obtain rfl := Option.some.inj ho
          have i3 := hdep ⟨3, .chain⟩ (by simp) rfl
          have e26 := h1 (hdep ⟨1, .data⟩ (by simp) rfl)
          subst e26
          rw [hd, i3] at hw
          obtain rfl : wc = S2 := hw
          have l0 := H4.out.cell
          have f0 := H4.out.frozen
          have HR := Lib.hid (And.intro h0 (And.intro h1 (And.intro m3 i3)))
          clear h0 h1 m3 m4 hdep i3
          refine .inl ?_
          unfold Oper.wp
          go_simp
          obtain ⟨h0, h1, m3, i3⟩ := HR.out
          exact (HI.out (also dn 4) _ _).2 ⟨_, _, rfl, h0, h1, by rw [also_self]; exact HS3.out.symm, by rw [also_ne dn (show 3 ≠ 4 by decide), also_ne dn (show 2 ≠ 4 by decide)]; exact m3, fun _ => by rw [also_ne dn (show 3 ≠ 4 by decide)]; exact i3⟩
        · cases ho
      · intro dn ac wc hd hIn
        obtain ⟨s25, s26, rfl, h0, h1, hw, m3, m4⟩ := (HI.out _ _ _).1 hIn
        rw [hd 4 (by decide)] at hw
        obtain rfl : wc = S3 := hw
        clear HI hIn h0 h1 m3 m4 hd
        gi_wp2
        exact ⟨((HK1.out.trans (Kq.below HB3.out hsl.out)).oth).trans HEE.out.2, HEE.out.1⟩
  case done =>
    rintro D W hD ⟨v, hP⟩ hK
    obtain ⟨va, vcap, rfl⟩ := own_shape hP.own
    have c5 := hP.out.cell
    have c2 := hP.r2.cell
    have f2 := hP.r2.frozen
    have c3 := hP.r3.cell
    have f3 := hP.r3.frozen
    have c4 := hP.r4.cell
    have f4 := hP.r4.frozen
    have HP := Lib.hid hP
    have HK := Lib.hid hK
    clear hP hK hP0 hseq
    gi_wp2
    have hk2 : KeepsOthers W (((W.setCell ⟨w.heap.size, 0, none⟩ (.slice va L.length vcap)).setCell ⟨w.heap.size + 1, 0, none⟩ (.int .i64 0)).setCell ⟨w.heap.size + 1 + 1, 0, none⟩ (.int .i64 0)) := ((KeepsOthers.setCell _ _ _).trans (KeepsOthers.setCell _ _ _)).trans (KeepsOthers.setCell _ _ _)
    have hKd := hk2.same D _ HK.out rfl
    have b2 := ((HP.out.r2.set (.slice va L.length vcap)).other (B' := w.heap.size + 1) (by omega) (.int .i64 0)).other (B' := w.heap.size + 1 + 1) (by omega) (.int .i64 0)
    have b3 := (((HP.out.r3.other (B' := w.heap.size) (by omega) (.slice va L.length vcap)).set (.int .i64 0)).other (B' := w.heap.size + 1 + 1) (by omega) (.int .i64 0))
    have b4 := (((HP.out.r4.other (B' := w.heap.size) (by omega) (.slice va L.length vcap)).other (B' := w.heap.size + 1) (by omega) (.int .i64 0)).set (.int .i64 0))
    have ho := own_cell (own_cell (own_cell HP.out.own HP.out.r2 (by decide) (.slice va L.length vcap)) (HP.out.r3.other (B' := w.heap.size) (by omega) (.slice va L.length vcap)) (by decide) (.int .i64 0)) ((HP.out.r4.other (B' := w.heap.size) (by omega) (.slice va L.length vcap)).other (B' := w.heap.size + 1) (by omega) (.int .i64 0)) (by decide) (.int .i64 0)
    have hbel := ((HP.out.bel.setCell (p := ⟨w.heap.size, 0, none⟩) (Nat.le_refl _) (.slice va L.length vcap)).setCell (p := ⟨w.heap.size + 1, 0, none⟩) (by show _ ≤ w.heap.size + 1; omega) (.int .i64 0)).setCell (p := ⟨w.heap.size + 1 + 1, 0, none⟩) (by show _ ≤ w.heap.size + 1 + 1; omega) (.int .i64 0)
    generalize (((W.setCell ⟨w.heap.size, 0, none⟩ (.slice va L.length vcap)).setCell ⟨w.heap.size + 1, 0, none⟩ (.int .i64 0)).setCell ⟨w.heap.size + 1 + 1, 0, none⟩ (.int .i64 0)) = Wf at *
    have hnon : ∀ r, some D = some r → ∃ o : Obj, Wf.heap[r]? = some o ∧ o.isCells = false := fun r e => by cases e; exact ⟨_, hKd, rfl⟩
    refine ⟨by simp, .inl ⟨_, _, rfl, run_takeDeferred hKd, ?_⟩⟩
    have hg := grownBy_putObj' Wf D (.deferred none)
    refine ⟨.tuple #[.slice va L.length vcap, .int .i64 0, .int .i64 0], results_cell3 Tryd.results17 _ _ _ _ _ rfl rfl rfl _ _ _ (load33 (b2.kept hg (boxed_non b2 hnon))) (load3 (b3.kept hg (boxed_non b3 hnon))) (load30 (b4.kept hg (boxed_non b4 hnon))), ?_⟩
    have hall : ∀ x ∈ lns s.data.toList, (lineP x).2 = 0 := fun x hx => HP.out.ok (str x) (by rw [HL.out]; exact List.mem_map.2 ⟨x, hx, rfl⟩)
    have hpar := parse_ok s.data.toList HLN.out hall
    have hmap : (L.map fun x => (lineP x.data.toList).1) = (lns s.data.toList).map fun x => (lineP x).1 := by
      rw [HL.out, List.map_map]; rfl
    have hlen : L.length = ((lns s.data.toList).map fun x => (lineP x).1).length := by rw [HL.out, List.length_map, List.length_map]
    refine ⟨_, by rw [hpar]; rfl, ?_, hbel.grown hg hbel.size (fun k e => by cases e; omega)⟩
    rw [hpar]
    unfold Rw
    have h9 := own_base (own_non ho hg hnon)
    rw [hmap] at h9
    show World.ownsRow _ 0 50 4 _ ((lns s.data.toList).map fun x => (lineP x).1).length _
    rw [← hlen]
    exact h9
  case stop =>
    rintro D pre W hD hpre hP hK
    have HP := Lib.hid hP
    have HK := Lib.hid hK
    clear hP hK hP0 hseq
    gi_wp2
    have hnon : ∀ r, some D = some r → ∃ o : Obj, W.heap[r]? = some o ∧ o.isCells = false := fun r e => by cases e; exact ⟨_, HK.out, rfl⟩
    refine ⟨by simp, .inl ⟨_, _, rfl, run_takeDeferred HK.out, ?_⟩⟩
    have hg := grownBy_putObj' W D (.deferred none)
    obtain ⟨p, x, hpe, hok, hx, b4⟩ := HP.out.r4
    refine ⟨.tuple #[.slice none 0 0, .int .i64 pre.length, .int .i64 (lineP x.data.toList).2], results_cell3 Tryd.results17 _ _ _ _ _ rfl rfl rfl _ _ _ (load33 (HP.out.r2.kept hg (boxed_non HP.out.r2 hnon))) (load3 (HP.out.r3.kept hg (boxed_non HP.out.r3 hnon))) (load30 (b4.kept hg (boxed_non b4 hnon))), ?_⟩
    obtain ⟨r, hr⟩ := hpre
    have hdl : lns s.data.toList = (p.map fun y => y.data.toList) ++ x.data.toList :: (r.map fun y => y.data.toList) := by
      have h1 : L.map (fun y => y.data.toList) = lns s.data.toList := by
        rw [HL.out, List.map_map]
        conv => rhs; rw [← List.map_id (lns s.data.toList)]
        rfl
      rw [← h1, ← hr, hpe]
      simp
    have hpar := parse_err s.data.toList HLN.out _ _ _ hdl (fun y hy => by obtain ⟨z, hz, rfl⟩ := List.mem_map.1 hy; exact hok z hz) hx
    refine ⟨.slice none 0 0, by rw [hpar]; simp [hpe], by rw [hpar]; exact Rw.nil .., HP.out.bel.grown hg HP.out.bel.size (fun k e => by cases e; omega)⟩
end Go.Proofs.YthoemgiadadfcaaDoor
