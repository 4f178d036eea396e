/- Rows of numbers at the head of a block: frames one behind the other. -/
import Derived.Test.YthoemgiadadfcaaWsSeam
set_option linter.unusedVariables false
set_option linter.unusedSimpArgs false
namespace Go.Proofs.Ythoemgiadadfcaa
open Go.RowKit Go.Sort Ws
/-- Block b holds the n numbers f, and perhaps more behind them. -/
def Pf (w : World) (b : Nat) (t : TypeId) (n : Nat) (f : Nat → Int) : Prop := ∃ cs, w.heap[b]? = some (.cells cs t (0, 0)) ∧ ∀ i, i < n → cs[i]? = some (.int .i64 (f i))
section
variable {w w' : World} {b n : Nat} {t : TypeId} {f : Nat → Int}
theorem Blk.pf (h : Blk w b t n f) : Pf w b t n f := ⟨_, h, fun i hi => iv_get _ _ i hi⟩
theorem Pf.lt (h : Pf w b t n f) : b < w.heap.size := by obtain ⟨cs, h1, _⟩ := h; exact (Array.getElem?_eq_some_iff.1 h1).1
theorem Pf.cell (h : Pf w b t n f) (i : Nat) (hi : i < n) : w.cell? ⟨b, i, none⟩ = some (.int .i64 (f i)) := by
  obtain ⟨cs, h1, h2⟩ := h
  exact (cell_of_row _ _ i _ t (0, 0) h1).trans (h2 i hi)
theorem Pf.free (h : Pf w b t n f) (i : Nat) : w.frozen? ⟨b, i, none⟩ = false := by obtain ⟨cs, h1, _⟩ := h; simp [World.frozen?, h1]
theorem Pf.set (h : Pf w b t n f) (i : Nat) (x : Int) : Pf (w.setCell ⟨b, i, none⟩ (.int .i64 x)) b t n (fun m => if m = i then x else f m) := by
  obtain ⟨cs, h1, h2⟩ := h
  refine ⟨_, heap_setCell_same w b i _ t (.int .i64 x) h1, fun j hj => ?_⟩
  have hs := (Array.getElem?_eq_some_iff.1 (h2 j hj)).1
  rw [Array.getElem?_setIfInBounds]
  show _ = some (Value.int .i64 (if j = i then x else f j))
  by_cases e : i = j
  · subst e; rw [if_pos rfl, if_pos hs, if_pos rfl]
  · rw [if_neg e, if_neg (fun h => e h.symm)]; exact h2 j hj
theorem Pf.congr (h : Pf w b t n f) {g : Nat → Int} (he : ∀ i, i < n → f i = g i) : Pf w b t n g := by
  obtain ⟨cs, h1, h2⟩ := h
  exact ⟨cs, h1, fun i hi => by rw [← he i hi]; exact h2 i hi⟩
theorem Pf.below (h : Pf w b t n f) (hb : Below w.heap.size w w') : Pf w' b t n f := by
  have hl := h.lt
  obtain ⟨cs, h1, h2⟩ := h
  exact ⟨cs, (hb.block b hl).trans h1, h2⟩
theorem Pf.keep {G : List Nat} (h : Pf w b t n f) (hk : Keep w w' G) (hb : b ∉ G) : Pf w' b t n f := by
  have hl := h.lt
  obtain ⟨cs, h1, h2⟩ := h
  exact ⟨cs, (hk.block b hl hb).trans h1, h2⟩
theorem Pf.range (h : Pf w b t n f) (o m : Nat) (hm : o + m ≤ n) : w.rangeAt b o (ivl m fun i => f (o + i)) := fun j v hv => by
  have hj : j < m := by
    have := (List.getElem?_eq_some_iff.1 hv).1
    rwa [ivl_length] at this
  rw [ivl_get _ _ j hj] at hv
  obtain rfl := Option.some.inj hv
  exact h.cell (o + j) (by omega)
theorem Pf.there (h : Pf w b t n f) (o m : Nat) (hm : o + m ≤ n) : w.there b o m := fun j hj => ⟨by rw [h.cell (o + j) (by omega)]; rfl, h.free _⟩
theorem Pf.sets (h : Pf w b t n f) : ∀ (m o s : Nat) (g : Nat → Int), Pf (w.setCells b o ((List.range' s m).map fun i => Value.int .i64 (g i))) b t n (fun c => if o ≤ c ∧ c < o + m then g (s + (c - o)) else f c) := by
  intro m
  induction m generalizing w f with
  | zero => intro o s g; exact h.congr fun i hi => by rw [if_neg (by omega)]
  | succ m ih =>
    intro o s g
    rw [List.range'_succ, List.map_cons]
    refine (ih (h.set o (g s)) (o + 1) (s + 1) g).congr fun i hi => ?_
    by_cases e : i = o
    · subst e
      rw [if_neg (by omega), if_pos rfl, if_pos (by omega)]
      congr 1; omega
    · by_cases e2 : o ≤ i ∧ i < o + (m + 1)
      · rw [if_pos (by omega), if_pos e2]
        congr 1; omega
      · rw [if_neg (by omega), if_neg e, if_neg e2]
theorem Pf.setl (h : Pf w b t n f) (o m : Nat) (g : Nat → Int) : Pf (w.setCells b o (ivl m g)) b t n (fun c => if o ≤ c ∧ c < o + m then g (c - o) else f c) := by
  have := h.sets m o 0 g
  rw [← List.range_eq_range'] at this
  exact this.congr fun i hi => by rw [Nat.zero_add]
end
/-- The frames' block, made by the call, and nothing below it turned. -/
structure Fw (w0 w : World) (b n : Nat) (f : F) : Prop where
  at_ : Pf w b 47 n f
  below : Below w0.heap.size w0 w
  new : w0.heap.size ≤ b
section
variable {w0 w w' : World} {b n : Nat} {f g : F}
theorem Fw.later (h : Fw w0 w b n f) (hb : Below w.heap.size w w') : Fw w0 w' b n f := ⟨h.at_.below hb, h.below.trans (hb.mono h.below.size), h.new⟩
theorem Fw.congr (h : Fw w0 w b n f) (he : ∀ i, i < n → f i = g i) : Fw w0 w b n g := ⟨h.at_.congr he, h.below, h.new⟩
theorem Fw.set (h : Fw w0 w b n f) (i : Nat) (x : Int) : Fw w0 (w.setCell ⟨b, i, none⟩ (.int .i64 x)) b n (fun m => if m = i then x else f m) :=
  ⟨h.at_.set i x, (Keep.setCell w ⟨b, i, none⟩ _ [b] (by simp)).below h.below (by intro j hj; rw [List.mem_singleton] at hj; rw [hj]; exact h.new), h.new⟩
theorem Fw.put (h : Fw w0 w b n f) (o m : Nat) (g : F) : Fw w0 (w.setCells b o (ivl m g)) b n (fun c => if o ≤ c ∧ c < o + m then g (c - o) else f c) :=
  ⟨h.at_.setl o m g, (Keep.setCells b _ o w [b] (by simp)).below h.below (by intro j hj; rw [List.mem_singleton] at hj; rw [hj]; exact h.new), h.new⟩
end
namespace Ws
/-- Frame k of many. -/
def fra (h : F) (k : Nat) : F := fun j => if j < 32 then h (k * 32 + j) else 0
/-- Two frames' seam, turned. -/
def seamAt (k : Nat) (h : F) : F := fun c =>
  if (k + 1) * 32 ≤ c ∧ c < (k + 1) * 32 + 32 then sB (fra h k) (fra h (k + 1)) 16 (c - (k + 1) * 32)
  else if k * 32 ≤ c ∧ c < k * 32 + 32 then sA (fra h k) (fra h (k + 1)) 16 (c - k * 32) else h c
def unseamAt (k : Nat) (h : F) : F := fun c =>
  if (k + 1) * 32 ≤ c ∧ c < (k + 1) * 32 + 32 then uB (fra h k) (fra h (k + 1)) 16 (c - (k + 1) * 32)
  else if k * 32 ≤ c ∧ c < k * 32 + 32 then uA (fra h k) (fra h (k + 1)) 16 (c - k * 32) else h c
def seamK : Nat → F → F
  | 0, h => h
  | k + 1, h => seamAt k (seamK k h)
def unseamK : Nat → F → F
  | 0, h => h
  | k + 1, h => unseamAt k (unseamK k h)
/-- The first k frames' waves, and the way back. -/
def wavK (k : Nat) (h : F) : F := fun c => if c / 32 < k then waves (fra h (c / 32)) (c % 32) else h c
def wabK (k : Nat) (h : F) : F := fun c => if c / 32 < k then waveb (fra h (c / 32)) (c % 32) else h c
def cnt (n : Nat) : Nat := n / 32 + min (n % 32) 1 + 1
/-- The frames of numbers. -/
def framesF (xs : List Int) : F := wavK (cnt xs.length) (seamK (cnt xs.length - 1) fun c => xs.getD c 0)
/-- The way back. -/
def samplesF (n : Nat) (h : F) : F := unseamK (n - 1) (wabK n h)
end Ws
theorem wavK_step (k : Nat) (h : F) : ∀ c, (if k * 32 ≤ c ∧ c < k * 32 + 32 then waves (fra (wavK k h) k) (c - k * 32) else wavK k h c) = wavK (k + 1) h c := by
  intro c
  have e : fra (wavK k h) k = fra h k := by
    funext j
    unfold fra wavK
    split
    · rw [if_neg (by omega)]
    · rfl
  rw [e]
  unfold wavK
  by_cases h1 : k * 32 ≤ c ∧ c < k * 32 + 32
  · rw [if_pos h1, if_pos (by omega), show c / 32 = k by omega, show c % 32 = c - k * 32 by omega]
  · rw [if_neg h1]
    by_cases h2 : c / 32 < k
    · rw [if_pos h2, if_pos (by omega)]
    · rw [if_neg h2, if_neg (by omega)]
theorem wabK_step (k : Nat) (h : F) : ∀ c, (if k * 32 ≤ c ∧ c < k * 32 + 32 then waveb (fra (wabK k h) k) (c - k * 32) else wabK k h c) = wabK (k + 1) h c := by
  intro c
  have e : fra (wabK k h) k = fra h k := by
    funext j
    unfold fra wabK
    split
    · rw [if_neg (by omega)]
    · rfl
  rw [e]
  unfold wabK
  by_cases h1 : k * 32 ≤ c ∧ c < k * 32 + 32
  · rw [if_pos h1, if_pos (by omega), show c / 32 = k by omega, show c % 32 = c - k * 32 by omega]
  · rw [if_neg h1]
    by_cases h2 : c / 32 < k
    · rw [if_pos h2, if_pos (by omega)]
    · rw [if_neg h2, if_neg (by omega)]
theorem fra_iv (h : F) (k : Nat) : iv 32 (fun i => h (k * 32 + i)) = iv 32 (fra h k) := iv_congr fun i hi => by unfold fra; rw [if_pos hi]
theorem count_is (n : Nat) (hn : n ≤ 1000000) (w : World) : Calls Try.prog 15 #[.int .i64 n] w fun e w' => e = .returned (.int .i64 (cnt n : Nat)) ∧ w' = w := by
  have e1 : (n : Int) / 32 = ((n / 32 : Nat) : Int) := by omega
  have e2 : (n : Int) % 32 = ((n % 32 : Nat) : Int) := by omega
  have hc : cnt n = n / 32 + min (n % 32) 1 + 1 := rfl
  obtain ⟨C, hC⟩ : ∃ C, C = cnt n := ⟨_, rfl⟩
  rw [← hC] at hc
  rw [← hC]
  have hC2 := Lib.hid hc
  generalize hq : n / 32 = q at *
  generalize hr : n % 32 = r at *
  have hql : q ≤ 1000000 := by omega
  have hrl : r < 32 := by omega
  clear hC hc hq hr
  have hd : decide ((n : Int) < 0) = false := by simp
  go_enter Try.func15, Try.ntmps15
  go_wp2
  all_goals
    go_ret
    have hcc := hC2.out
    refine ⟨?_, rfl⟩
    first
      | (show Ending.returned (Value.int .i64 ((q : Int) + 1 + 1)) = _; congr 2; omega)
      | (show Ending.returned (Value.int .i64 ((q : Int) + (r : Int) + 1)) = _; congr 2; omega)
end Go.Proofs.Ythoemgiadadfcaa
