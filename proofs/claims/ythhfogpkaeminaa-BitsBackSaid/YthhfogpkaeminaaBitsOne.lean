/- The walk of (*bits.Writer).one: a bit is laid. -/
import Derived.Test.YthhfogpkaeminaaProg
import Derived.Test.YthhfogpkaeminaaFoot
import Derived.Test.YthhfogpkaeminaaBitsPure
import Derived.BigRegion
import Derived.Deep.DeepFit
namespace Go.Proofs.Ythhfogpkaeminaa
open Go.RowKit Go.Sort

def casts (l : List Nat) : List Int := l.map Nat.cast
theorem casts_length (l : List Nat) : (casts l).length = l.length := by simp [casts]
theorem casts_getD (l : List Nat) (i : Nat) : (casts l).getD i 0 = ((l.getD i 0 : Nat) : Int) := by
  simp only [casts, List.getD_eq_getElem?_getD, List.getElem?_map]
  cases l[i]? <;> rfl
theorem casts_set (l : List Nat) (i x : Nat) : casts (l.set i x) = (casts l).set i (x : Int) := by simp [casts, List.map_set]
theorem casts_snoc (l : List Nat) (x : Nat) : casts (l ++ [x]) = casts l ++ [(x : Int)] := by simp [casts]
theorem info5 : (Try.prog.info? 5).map (fun i => (i.zero, i.size, i.bytes)) = some (some (.int .u8 0), 1, 1) := by kernel_rfl

/-- Block k is a Writer that has laid the bits l, its bytes lie in the blocks F beside. -/
def Wr (w : World) (k : Nat) (F : List Nat) (l : List Bool) : Prop :=
  ∃ v, w.heap[k]? = some (.cells #[v, .int .i64 l.length] 31 (0, 0)) ∧ Own w 5 .u8 v (casts (Bits.pack l)) ∧ F = foot v
theorem Wr.lt {w : World} {k : Nat} {F : List Nat} {l : List Bool} (h : Wr w k F l) : k < w.heap.size := by
  obtain ⟨v, h1, _⟩ := h
  exact (Array.getElem?_eq_some_iff.1 h1).1
theorem Wr.ne {w : World} {k : Nat} {F : List Nat} {l : List Bool} (h : Wr w k F l) : k ∉ F := by
  obtain ⟨v, h1, h2, rfl⟩ := h
  exact h2.ne h1 (by decide)
theorem Wr.foot_lt {w : World} {k : Nat} {F : List Nat} {l : List Bool} (h : Wr w k F l) : ∀ j ∈ F, j < w.heap.size := by
  obtain ⟨v, h1, h2, rfl⟩ := h
  exact h2.lt
theorem Wr.keep {w w' : World} {k : Nat} {F G : List Nat} {l : List Bool} (h : Wr w k F l) (hk : Keep w w' G) (h1 : k ∉ G) (h2 : ∀ j ∈ F, j ∉ G) : Wr w' k F l := by
  have hlt := h.lt
  obtain ⟨v, ha, hb, rfl⟩ := h
  exact ⟨v, (hk.block k hlt h1).trans ha, hb.keep hk h2, rfl⟩
theorem Wr.below {w w' : World} {k : Nat} {F : List Nat} {l : List Bool} (h : Wr w k F l) (hb : Below w.heap.size w w') : Wr w' k F l :=
  h.keep (Keep.of_below hb []) (by simp) (by simp)

theorem cell_in (w : World) (k j : Nat) (cs : Array Value) (t : TypeId) (v : Value) (h : w.heap[k]? = some (.cells cs t (0, 0))) (hv : cs[j]? = some v) : w.cell? ⟨k, j, none⟩ = some v := by
  rw [cell_of_row w k j cs t (0, 0) h]; exact hv
theorem free_in (w : World) (k j : Nat) (cs : Array Value) (t : TypeId) (h : w.heap[k]? = some (.cells cs t (0, 0))) : w.frozen? ⟨k, j, none⟩ = false := frozen_of_row w k j cs t h

theorem lay_byte (x m : Nat) (b : Bool) (hx : x < 256) (hm : m < 8) (y : Int) (hy : y = if b then 1 else 0) :
    bits .or .u8 (x : Int) (wrap64 (y * 2 ^ (7 - m)) % 256) = ((x ||| b.toNat * 2 ^ (7 - m) : Nat) : Int) := by
  have hp : 2 ^ (7 - m) < 256 := Nat.pow_lt_pow_right (m := 7 - m) (n := 8) (by decide) (by omega)
  have e : wrap64 (y * 2 ^ (7 - m)) % 256 = ((b.toNat * 2 ^ (7 - m) : Nat) : Int) := by
    subst hy
    have hc : ((2 : Int) ^ (7 - m)) = ((2 ^ (7 - m) : Nat) : Int) := by rw [Int.natCast_pow]; rfl
    rw [hc]
    generalize 2 ^ (7 - m) = q at *
    unfold wrap64
    cases b
    · simp
    · simp only [if_true, Bool.toNat_true, Int.one_mul, Nat.one_mul]
      omega
  rw [e]
  refine u8_or_nat _ _ hx ?_
  generalize 2 ^ (7 - m) = q at *
  cases b <;> simp
  exact hp
/-- Behind a call that lays: block k has laid l; nothing but the Writer's own has turned. -/
def Laid (w : World) (k : Nat) (F : List Nat) (l : List Bool) (w' : World) : Prop := ∃ F', Wr w' k F' l ∧ Keep w w' (k :: F) ∧ ∀ j ∈ F', j ∈ F ∨ w.heap.size ≤ j
theorem laid_end (w w1 : World) (k g cap n : Nat) (F : List Nat) (l : List Bool) (b : Bool) (y : Int) (hy : y = if b then 1 else 0) (hn : n = l.length) (x : Nat) (xs : List Nat) (hxs : xs = Bits.room l) (hx : x = xs.getD (n / 8) 0)
    (hh : w1.heap[k]? = some (.cells #[.slice (some ⟨g, 0, none⟩) xs.length cap, .int .i64 n] 31 (0, 0)))
    (ho : Own w1 5 .u8 (.slice (some ⟨g, 0, none⟩) (casts xs).length cap) (casts xs)) (hkg : ¬ (k = g)) (hk : Keep w w1 (k :: F)) (hg : g ∈ F ∨ w.heap.size ≤ g) :
    Laid w k F (l ++ [b]) ((w1.setCell ⟨g, n / 8, none⟩ (.int .u8 (bits .or .u8 (x : Int) (wrap64 (y * 2 ^ (7 - n % 8)) % 256)))).setCell ⟨k, 1, none⟩ (.int .i64 ((n : Int) + 1))) := by
  have hlen : xs.length = n / 8 + 1 := by rw [hxs, Bits.room_length, hn]
  have hx256 : x < 256 := by
    rw [hx, List.getD_eq_getElem?_getD, List.getElem?_eq_getElem (by omega), Option.getD_some]
    have := Bits.room_get l (n / 8) (by omega)
    simp only [hxs]
    rw [this]
    exact Bits.byte8_lt _
  have hb := lay_byte x (n % 8) b hx256 (Nat.mod_lt _ (by omega)) y hy
  rw [hb]
  have hset := ho.set (n / 8) ((x ||| b.toNat * 2 ^ (7 - n % 8) : Nat) : Int)
  rw [← casts_set] at hset
  have hpk : Bits.pack (l ++ [b]) = xs.set (n / 8) (x ||| b.toNat * 2 ^ (7 - n % 8)) := by rw [Bits.pack_snoc, hx, hxs, hn]
  rw [← hpk] at hset
  have hlen2 : (casts (Bits.pack (l ++ [b]))).length = xs.length := by rw [hpk, casts_length, List.length_set]
  refine ⟨[g], ⟨.slice (some ⟨g, 0, none⟩) (casts (Bits.pack (l ++ [b]))).length cap, ?_, ?_, rfl⟩, ?_, ?_⟩
  · rw [heap_setCell_same _ k 1 #[.slice (some ⟨g, 0, none⟩) xs.length cap, .int .i64 n] 31 _ (by rw [Below.heap_setCell _ _ _ _ (by simpa using hkg)]; exact hh), hlen2]
    simp [hn]
  · exact hset.keep (Keep.setCell _ ⟨k, 1, none⟩ _ [k] (by simp)) (by intro j hj; simp [foot, Value.ownBlock] at hj; subst hj; simpa using fun e => hkg e.symm)
  · refine (hk.then (Keep.setCell w1 ⟨g, n / 8, none⟩ _ [g] (by simp)) (by intro j hj; simp at hj; subst hj; rcases hg with h | h; exact .inl (by simp [h]); exact .inr h)).then (Keep.setCell _ ⟨k, 1, none⟩ _ [k] (by simp)) (by intro j hj; simp at hj; subst hj; simp)
  · intro j hj; simp at hj; subst hj; exact hg
set_option maxRecDepth 100000 in
set_option maxHeartbeats 1000000 in
theorem one_full (l : List Bool) (b : Bool) (y : Int) (hy : y = if b then 1 else 0) (hl : l.length ≤ 100000) (hm : ¬ l.length % 8 = 0) (k : Nat) (F : List Nat) (w : World) (h : Wr w k F l) :
    Calls Try.prog 34 #[.pointer (some ⟨k, 0, none⟩), .int .i64 y] w fun e w' => e = .returned (.tuple #[]) ∧ Laid w k F (l ++ [b]) w' := by
  have hne := h.ne
  obtain ⟨v, hh, ho, rfl⟩ := h
  have hpl := Bits.pack_length l
  obtain ⟨g, cap, hv⟩ := ho.form (by rw [casts_length, hpl]; omega)
  subst hv
  have hkg : ¬ (k = g) := by rw [foot_slice] at hne; simpa using hne
  have hc0 := cell_in w k 0 _ _ _ hh rfl
  have hc1 := cell_in w k 1 _ _ _ hh rfl
  have hf0 := free_in w k 0 _ _ hh
  have hf1 := free_in w k 1 _ _ hh
  obtain ⟨x, hx⟩ : ∃ x, x = (Bits.pack l).getD (l.length / 8) 0 := ⟨_, rfl⟩
  have hcg : w.cell? ⟨g, l.length / 8, none⟩ = some (.int .u8 (x : Int)) := by
    rw [ho.at_ _ (by rw [casts_length, hpl]; omega), casts_getD, ← hx]
  have hfg := ho.free (l.length / 8)
  obtain ⟨n, hn⟩ : ∃ n, n = l.length := ⟨_, rfl⟩
  obtain ⟨m, hm2⟩ : ∃ m, m = (casts (Bits.pack l)).length := ⟨_, rfl⟩
  have hidx : n / 8 < m := by rw [hm2, casts_length, hpl, hn]; omega
  rw [← hm2, ← hn] at hc0
  rw [← hn] at hc1 hcg hfg hm hl
  have HH := Lib.hid (And.intro hh ho)
  have HX := Lib.hid (And.intro hx (And.intro hn hm2))
  have HY := Lib.hid hy
  clear hh ho hx hn hm2 hy hpl hne
  go_enter Try.func34, Try.ntmps34
  go_wp2
  go_region
  go_wp2
  go_end0
  obtain ⟨hh, ho⟩ := HH.out
  obtain ⟨hx, hn, hm2⟩ := HX.out
  have hroom : Bits.pack l = Bits.room l := by unfold Bits.room; rw [if_neg (by rw [← hn]; exact hm)]
  refine ⟨rfl, ?_⟩
  have := laid_end w w k g cap n [g] l b y HY.out hn x (Bits.pack l) hroom (by rw [hx, hn]) (by rw [hh, hn, casts_length]) ho hkg (Keep.refl w _) (.inl (by simp))
  obtain ⟨F', h1, h2, h3⟩ := this
  exact ⟨F', h1.keep (Keep.drew _ []) (by simp) (by simp), h2.trans (Keep.drew _ _), h3⟩

/-- What the append of a zero byte leaves. -/
structure Grown1 (w : World) (k : Nat) (v : Value) (l : List Bool) (g cap : Nat) (w1 : World) : Prop where
  own : Own w1 5 .u8 (.slice (some ⟨g, 0, none⟩) (casts (Bits.room l)).length cap) (casts (Bits.room l))
  keep : Keep w w1 (foot v)
  new : g ∈ foot v ∨ w.heap.size ≤ g
  block : w1.heap[k]? = some (.cells #[v, .int .i64 l.length] 31 (0, 0))
theorem wr_append {ops : Array Oper} {rest : List Oper} {o : Oper} {a : Act} {Q : Exit → Act → World → Prop} {w : World} (hgd : o.guard = none) (s x : Operand)
    (ho : o.op = .call { callee := .builtin .append, args := #[s, x], argTypes := #[26, 26] })
    (l : List Bool) (n : Nat) (hn : n = l.length) (hm : n % 8 = 0) (hl : n ≤ 100000) (k : Nat) (v : Value) (hs : a.eval s = v) (hx : a.eval x = .slice (some ⟨w.heap.size, 0, none⟩) 1 1)
    (hh : w.heap[k]? = some (.cells #[v, .int .i64 l.length] 31 (0, 0))) (HO : Own w 5 .u8 v (casts (Bits.pack l)))
    (h : ∀ g cap w1, Hid (Grown1 w k v l g cap w1) → ¬ (k = g) → w1.cell? ⟨k, 0, none⟩ = some v → w1.cell? ⟨k, 1, none⟩ = some (.int .i64 n) → w1.frozen? ⟨k, 0, none⟩ = false → w1.frozen? ⟨k, 1, none⟩ = false →
      w1.cell? ⟨g, n / 8, none⟩ = some (.int .u8 0) → w1.frozen? ⟨g, n / 8, none⟩ = false → wpList Try.prog ops Q rest (a.put o.dst (.slice (some ⟨g, 0, none⟩) (n / 8 + 1) cap)) w1) :
    wpList Try.prog ops Q (o :: rest) a (w.alloc (.cells #[.int .u8 0] 5)) := by
  have hpl := Bits.pack_length l
  have hroom : casts (Bits.room l) = casts (Bits.pack l) ++ [0] := by unfold Bits.room; rw [if_pos (by rw [← hn]; exact hm), casts_snoc]; rfl
  have hlen1 : (casts (Bits.room l)).length = n / 8 + 1 := by rw [casts_length, Bits.room_length, hn]
  have hx0 : (casts (Bits.room l)).getD (n / 8) 0 = 0 := by
    rw [casts_getD]
    have hr := Bits.room_get l (n / 8) (by omega)
    rw [List.getD_eq_getElem?_getD, List.getElem?_eq_getElem (by rw [Bits.room_length]; omega), Option.getD_some, hr]
    have : ∀ j, l.getD (8 * (n / 8) + j) false = false := fun j => by
      rw [List.getD_eq_getElem?_getD, List.getElem?_eq_none (by omega)]; rfl
    simp only [this]; rfl
  have hklt : k < w.heap.size := (Array.getElem?_eq_some_iff.1 hh).1
  have hne : k ∉ foot v := HO.ne hh (by decide)
  refine append_one hgd s x 26 5 .u8 1 ho Try.underlying26 info5 (by decide) v (casts (Bits.pack l)) 0 hs hx HO (by rw [casts_length, hpl]; omega) ?_
  intro g cap w1 ho1 hk1 hg1
  rw [← hroom] at ho1
  rw [← hroom, hlen1]
  have hh1 := (hk1.block k hklt hne).trans hh
  have hkg : ¬ (k = g) := fun e => by
    rcases hg1 with h | h
    · exact hne (e ▸ h)
    · omega
  refine h g cap w1 ⟨ho1, hk1, hg1, hh1⟩ hkg (cell_in w1 k 0 _ _ _ hh1 rfl) (by rw [hn]; exact cell_in w1 k 1 _ _ _ hh1 rfl) (free_in w1 k 0 _ _ hh1) (free_in w1 k 1 _ _ hh1) ?_ (ho1.free (n / 8))
  rw [ho1.at_ (n / 8) (by omega), hx0]
set_option maxRecDepth 100000 in
set_option maxHeartbeats 1000000 in
theorem one_new (l : List Bool) (b : Bool) (y : Int) (hy : y = if b then 1 else 0) (hl : l.length ≤ 100000) (hm : l.length % 8 = 0) (k : Nat) (F : List Nat) (w : World) (h : Wr w k F l) :
    Calls Try.prog 34 #[.pointer (some ⟨k, 0, none⟩), .int .i64 y] w fun e w' => e = .returned (.tuple #[]) ∧ Laid w k F (l ++ [b]) w' := by
  obtain ⟨v, hh, ho, rfl⟩ := h
  obtain ⟨n, hn⟩ : ∃ n, n = l.length := ⟨_, rfl⟩
  have hc0 : w.cell? ⟨k, 0, none⟩ = some v := cell_in w k 0 _ _ _ hh rfl
  have hc1 : w.cell? ⟨k, 1, none⟩ = some (.int .i64 n) := by rw [hn]; exact cell_in w k 1 _ _ _ hh rfl
  have hf0 := free_in w k 0 _ _ hh
  have hf1 := free_in w k 1 _ _ hh
  rw [← hn] at hm hl
  have HH := Lib.hid (And.intro hh ho)
  have HN := Lib.hid hn
  have HY := Lib.hid hy
  have hmod : ((n : Int) % 8 == 0) = true := by simp; omega
  clear hh ho hn hy
  go_enter Try.func34, Try.ntmps34
  go_wp2_with (at_builtin; refine wr_append rfl _ _ rfl l n HN.out hm hl k v rfl rfl HH.out.1 HH.out.2 ?_; intro g cap w1 HG hkg hd0 hd1 he0 he1 hdg heg)
  go_region
  go_wp2
  go_end0
  obtain ⟨h1, h2, h3, h4⟩ := HG.out
  refine ⟨rfl, ?_⟩
  have hlen1 : (casts (Bits.room l)).length = n / 8 + 1 := by rw [casts_length, Bits.room_length, HN.out]
  have hx0 : (0 : Nat) = (Bits.room l).getD (n / 8) 0 := by
    have := h2
    rw [h1.at_ (n / 8) (by omega), casts_getD] at hdg
    injection hdg with hdg
    injection hdg with _ hdg
    omega
  have hkf : ¬ (g = k) := fun e => hkg e.symm
  have := laid_end w (w1.setCell ⟨k, 0, none⟩ (.slice (some ⟨g, 0, none⟩) (n / 8 + 1) cap)) k g cap n (foot v) l b y HY.out HN.out 0 (Bits.room l) rfl hx0
    (by rw [heap_setCell_same _ k 0 _ 31 _ h4, ← casts_length (Bits.room l), hlen1]; simp [HN.out])
    (h1.keep (Keep.setCell _ ⟨k, 0, none⟩ _ [k] (by simp)) (by intro j hj; simp [foot, Value.ownBlock] at hj; subst hj; simpa using hkf)) hkg
    ((h2.mono (G := k :: foot v) (fun j hj => .inl (by simp [hj]))).then (Keep.setCell _ ⟨k, 0, none⟩ _ [k] (by simp)) (by intro j hj; simp at hj; subst hj; simp)) h3
  have e7 : (2 : Int) ^ (7 - n % 8) = 128 := by rw [hm]; rfl
  rw [e7] at this
  obtain ⟨F', g1, g2, g3⟩ := this
  exact ⟨F', g1.keep (Keep.drew _ []) (by simp) (by simp), g2.trans (Keep.drew _ _), g3⟩
/-- A bit is laid. -/
theorem one_is (l : List Bool) (b : Bool) (y : Int) (hy : y = if b then 1 else 0) (hl : l.length ≤ 100000) (k : Nat) (F : List Nat) (w : World) (h : Wr w k F l) :
    Calls Try.prog 34 #[.pointer (some ⟨k, 0, none⟩), .int .i64 y] w fun e w' => e = .returned (.tuple #[]) ∧ Laid w k F (l ++ [b]) w' := by
  by_cases hm : l.length % 8 = 0
  · exact one_new l b y hy hl hm k F w h
  · exact one_full l b y hy hl hm k F w h
end Go.Proofs.Ythhfogpkaeminaa
