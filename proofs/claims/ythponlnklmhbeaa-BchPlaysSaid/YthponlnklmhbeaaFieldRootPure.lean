/- A polynomial that isn't 0 has fewer zeros than numbers. -/
import Derived.Test.YthponlnklmhbeaaFieldPure
set_option linter.unusedVariables false
set_option linter.unusedSimpArgs false
namespace Go.Proofs.Ythponlnklmhbeaa
namespace F7
def ev : List Nat → Nat → Nat
  | [], _ => 0
  | c :: p, x => mul (ev p x) x ^^^ c
def dv : List Nat → Nat → List Nat
  | [], _ => []
  | [_], _ => []
  | _ :: d :: p, r => ev (d :: p) r :: dv (d :: p) r
def Low (p : List Nat) : Prop := ∀ c ∈ p, c < 128
theorem ev_lt (p : List Nat) (x : Nat) (h : Low p) : ev p x < 128 := by
  cases p with
  | nil => simp [ev]
  | cons c p => exact xor_lt _ _ (mul_lt _ _) (h c (by simp))
theorem dv_low (r : Nat) : ∀ p, Low p → Low (dv p r)
  | [], _ => by simp [dv, Low]
  | [_], _ => by simp [dv, Low]
  | c :: d :: p, h => by
    have h' : Low (d :: p) := fun c hc => h c (List.mem_cons_of_mem _ hc)
    intro c hc
    rw [dv] at hc
    rcases List.mem_cons.1 hc with e | e
    · rw [e]; exact ev_lt _ _ h'
    · exact dv_low r (d :: p) h' c e
theorem dv_length (r : Nat) : ∀ p, (dv p r).length = p.length - 1
  | [] => rfl
  | [_] => rfl
  | _ :: d :: p => by
    rw [dv, List.length_cons, dv_length r (d :: p)]; simp
theorem xor_swap (a b c d : Nat) : (a ^^^ b) ^^^ (c ^^^ d) = (a ^^^ (b ^^^ c)) ^^^ d := by
  rw [Nat.xor_assoc, Nat.xor_assoc, Nat.xor_assoc]
theorem ev_dv (r x : Nat) (hr : r < 128) (hx : x < 128) : ∀ p, Low p → ev p x = mul (ev (dv p r) x) (x ^^^ r) ^^^ ev p r
  | [], _ => by simp [ev, dv, zero_mul]
  | [c], _ => by simp [ev, dv, zero_mul]
  | c :: d :: p, h => by
    have h' : Low (d :: p) := fun c hc => h c (List.mem_cons_of_mem _ hc)
    have ih := ev_dv r x hr hx (d :: p) h'
    have hq := dv_low r (d :: p) h'
    have l1 := ev_lt _ x hq
    have l2 := ev_lt _ r h'
    have l3 := xor_lt x r hx hr
    have e1 : ev (c :: d :: p) x = mul (ev (d :: p) x) x ^^^ c := rfl
    have e2 : ev (c :: d :: p) r = mul (ev (d :: p) r) r ^^^ c := rfl
    have e3 : ev (dv (c :: d :: p) r) x = mul (ev (dv (d :: p) r) x) x ^^^ ev (d :: p) r := rfl
    rw [e1, e2, e3, ih]
    obtain ⟨Q, hQ⟩ : ∃ Q, Q = ev (dv (d :: p) r) x := ⟨_, rfl⟩
    obtain ⟨P, hP⟩ : ∃ P, P = ev (d :: p) r := ⟨_, rfl⟩
    rw [← hQ] at l1
    rw [← hP] at l2
    rw [← hQ, ← hP]
    rw [xor_mul x _ _ hx (mul_lt _ _) l2, xor_mul (x ^^^ r) _ _ l3 (mul_lt _ _) l2, mul_xor P x r l2 hx hr,
      ← mul_assoc Q (x ^^^ r) x l1 l3 hx, ← mul_assoc Q x (x ^^^ r) l1 hx l3, mul_comm (x ^^^ r) x]
    generalize mul Q (mul x (x ^^^ r)) = a
    generalize mul P x = b
    generalize mul P r = d'
    have key : ∀ a b d c : Nat, (a ^^^ b) ^^^ c = (a ^^^ (b ^^^ d)) ^^^ (d ^^^ c) := fun a b d c => by
      rw [← Nat.xor_assoc a b d, Nat.xor_assoc (a ^^^ b) d, ← Nat.xor_assoc d d c, Nat.xor_self, Nat.zero_xor]
    exact key a b d' c
theorem dv_zero (r : Nat) : ∀ p, (∀ c ∈ dv p r, c = 0) → ev p r = 0 → ∀ c ∈ p, c = 0
  | [], _, _ => by simp
  | [c], _, h => by
    intro c' hc
    simp [ev, zero_mul] at h hc
    rw [hc, h]
  | c :: d :: p, hd, h => by
    rw [dv] at hd
    have h1 := hd (ev (d :: p) r) (by simp)
    have h2 := dv_zero r (d :: p) (fun c hc => hd c (List.mem_cons_of_mem _ hc)) h1
    have e2 : ev (c :: d :: p) r = mul (ev (d :: p) r) r ^^^ c := rfl
    rw [e2, h1, zero_mul, Nat.zero_xor] at h
    intro c' hc
    rcases List.mem_cons.1 hc with e | e
    · rw [e, h]
    · exact h2 c' e
theorem one_at : ∀ r, r < 128 → (List.range 128).countP (fun x => x == r) ≤ 1 := by decide +kernel
theorem countP_or {p q s : Nat → Bool} : ∀ l : List Nat, (∀ x ∈ l, p x = true → q x = true ∨ s x = true) → l.countP p ≤ l.countP q + l.countP s
  | [], _ => by simp
  | a :: l, h => by
    have ih := countP_or l fun x hx => h x (List.mem_cons_of_mem _ hx)
    have ha := h a (by simp)
    simp only [List.countP_cons]
    cases hp : p a <;> cases hq : q a <;> cases hs : s a <;> simp_all <;> omega
def zeros (p : List Nat) : Nat := (List.range 128).countP fun x => ev p x == 0
theorem roots (n : Nat) : ∀ p, p.length = n → Low p → ¬ (∀ c ∈ p, c = 0) → zeros p < n := by
  induction n with
  | zero =>
    intro p hp _ h
    have : p = [] := List.length_eq_zero_iff.1 hp
    subst this
    exact (h (by simp)).elim
  | succ n ih =>
    intro p hp hl h
    by_cases hr : ∃ r, r < 128 ∧ ev p r = 0
    · obtain ⟨r, hr, h0⟩ := hr
      have h1 := ih (dv p r) (by rw [dv_length, hp]; rfl) (dv_low r p hl) (fun hz => h (dv_zero r p hz h0))
      have h2 : zeros p ≤ (List.range 128).countP (fun x => x == r) + zeros (dv p r) := by
        refine countP_or _ fun x hx he => ?_
        have hx' := List.mem_range.1 hx
        have he' : ev p x = 0 := by simpa using he
        have hd := ev_dv r x hr hx' p hl
        rw [he', h0, Nat.xor_zero] at hd
        rcases (mul_eq_zero _ _ (ev_lt _ _ (dv_low r p hl)) (xor_lt x r hx' hr)).1 hd.symm with e | e
        · right; simp [e]
        · left
          have h3 : (x ^^^ r) ^^^ r = 0 ^^^ r := by rw [e]
          rw [Nat.xor_assoc, Nat.xor_self, Nat.xor_zero, Nat.zero_xor] at h3
          simp [h3]
      have h3 := one_at r hr
      omega
    · have : zeros p = 0 := by
        unfold zeros
        rw [List.countP_eq_zero]
        intro x hx he
        exact hr ⟨x, List.mem_range.1 hx, by simpa using he⟩
      omega
theorem roots_all (p : List Nat) (h : ∀ c ∈ p, c = 0) : zeros p = 128 := by
  have e : ∀ x, ev p x = 0 := by
    intro x
    induction p with
    | nil => rfl
    | cons c p ih =>
      have e1 : ev (c :: p) x = mul (ev p x) x ^^^ c := rfl
      rw [e1, ih fun c hc => h c (List.mem_cons_of_mem _ hc), zero_mul, h c (by simp), Nat.xor_zero]
  unfold zeros
  have : (List.range 128).countP (fun x => ev p x == 0) = (List.range 128).length := by
    rw [List.countP_eq_length]
    intro x _
    simp [e x]
  rw [this, List.length_range]
end F7
end Go.Proofs.Ythponlnklmhbeaa
