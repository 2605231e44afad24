/- The canonical form of a polynomial: plain facts. -/
import Derived.Test.YtjjcncedfphnhaaIns
namespace Go.Vc

/-- the sum of the coefficients at an exponent -/
def cf : Pol → List Nat → Int
  | [], _ => 0
  | t :: r, e => (if t.2 = e then t.1 else 0) + cf r e
/-- the sum of the absolute values -/
def norm1 : Pol → Nat
  | [] => 0
  | t :: r => t.1.natAbs + norm1 r

theorem cf_append (p q : Pol) (e : List Nat) : cf (p ++ q) e = cf p e + cf q e := by
  induction p with
  | nil => simp [cf]
  | cons t r ih => simp only [List.cons_append, cf, ih]; omega
theorem norm1_append (p q : Pol) : norm1 (p ++ q) = norm1 p + norm1 q := by
  induction p with
  | nil => simp [norm1]
  | cons t r ih => simp only [List.cons_append, norm1, ih]; omega
theorem cf_perm {p q : Pol} (h : p.Perm q) (e : List Nat) : cf p e = cf q e := by
  induction h with
  | nil => rfl
  | cons x _ ih => simp only [cf, ih]
  | swap x y l => simp only [cf]; omega
  | trans _ _ ih1 ih2 => rw [ih1, ih2]
theorem norm1_perm {p q : Pol} (h : p.Perm q) : norm1 p = norm1 q := by
  induction h with
  | nil => rfl
  | cons x _ ih => simp only [norm1, ih]
  | swap x y l => simp only [norm1]; omega
  | trans _ _ ih1 ih2 => rw [ih1, ih2]
theorem norm1_mem {p : Pol} {t : Term1} (h : t ∈ p) : t.1.natAbs ≤ norm1 p := by
  induction p with
  | nil => cases h
  | cons s r ih =>
    simp only [norm1]
    cases h with
    | head => omega
    | tail _ h => have := ih h; omega
theorem cf_not_mem {p : Pol} {e : List Nat} (h : ∀ t ∈ p, t.2 ≠ e) : cf p e = 0 := by
  induction p with
  | nil => rfl
  | cons t r ih =>
    simp only [cf]
    rw [if_neg (h t List.mem_cons_self), ih fun s hs => h s (List.mem_cons_of_mem _ hs)]; rfl
theorem cf_filter (p : Pol) (e : List Nat) : cf (p.filter fun t => decide (t.1 ≠ 0)) e = cf p e := by
  induction p with
  | nil => rfl
  | cons t r ih =>
    by_cases h : t.1 ≠ 0
    · rw [List.filter_cons_of_pos (by simpa using h)]; simp only [cf, ih]
    · rw [List.filter_cons_of_neg (by simpa using h)]
      simp only [cf, ih]
      have : t.1 = 0 := by simpa using h
      rw [this]; split <;> omega
theorem norm1_filter (p : Pol) : norm1 (p.filter fun t => decide (t.1 ≠ 0)) ≤ norm1 p := by
  induction p with
  | nil => exact Nat.le_refl _
  | cons t r ih =>
    by_cases h : t.1 ≠ 0
    · rw [List.filter_cons_of_pos (by simpa using h)]; simp only [norm1]; omega
    · rw [List.filter_cons_of_neg (by simpa using h)]; simp only [norm1]; omega

theorem L4.tail {t : Term1} {p : Pol} (h : L4 (t :: p)) : t.2.length = 4 ∧ L4 p := ⟨h t List.mem_cons_self, fun s hs => h s (List.mem_cons_of_mem _ hs)⟩

/-- canonical: the exponents descend, and no coefficient is 0 -/
structure Canon (q : Pol) : Prop where
  desc : q.Pairwise fun s t => cmpE s.2 t.2 = 1
  nz : ∀ t ∈ q, t.1 ≠ 0
  l4 : L4 q

theorem Canon.nil : Canon [] := ⟨List.Pairwise.nil, fun _ h => (List.not_mem_nil h).elim, fun _ h => (List.not_mem_nil h).elim⟩
theorem Canon.tail {t : Term1} {q : Pol} (h : Canon (t :: q)) : Canon q := ⟨(List.pairwise_cons.1 h.desc).2, fun s hs => h.nz s (List.mem_cons_of_mem _ hs), fun s hs => h.l4 s (List.mem_cons_of_mem _ hs)⟩
theorem cmpE_one_ne {a b : List Nat} (h : cmpE a b = 1) : a ≠ b := fun e => by
  subst e
  have := cmpE_swap a a; omega
theorem Canon.cf_head {t : Term1} {q : Pol} (h : Canon (t :: q)) : cf (t :: q) t.2 = t.1 := by
  simp only [cf, if_true]
  rw [cf_not_mem fun s hs e => cmpE_one_ne ((List.pairwise_cons.1 h.desc).1 s hs) e.symm]; omega
theorem Canon.cf_above {t : Term1} {q : Pol} (h : Canon (t :: q)) {e : List Nat} (he : cmpE e t.2 = 1) (hl : e.length = 4) : cf (t :: q) e = 0 := by
  refine cf_not_mem fun s hs heq => ?_
  cases hs with
  | head => exact cmpE_one_ne he heq.symm
  | tail _ hs =>
    have h1 := (List.pairwise_cons.1 h.desc).1 s hs
    have := cmpE_trans1 (a := e) (b := t.2) (c := s.2) (by rw [hl, h.l4 t List.mem_cons_self]) (by rw [h.l4 t List.mem_cons_self, h.l4 s (List.mem_cons_of_mem _ hs)]) he (by omega)
    exact cmpE_one_ne this heq.symm

/-- a canonical polynomial is known by its coefficients -/
theorem canon_unique : ∀ {p q : Pol}, Canon p → Canon q → (∀ e, e.length = 4 → cf p e = cf q e) → p = q
  | [], [], _, _, _ => rfl
  | [], t :: q, _, hq, h => by
    have := h t.2 (hq.l4 t List.mem_cons_self)
    rw [hq.cf_head] at this
    exact absurd this.symm (hq.nz t List.mem_cons_self)
  | t :: p, [], hp, _, h => by
    have := h t.2 (hp.l4 t List.mem_cons_self)
    rw [hp.cf_head] at this
    exact absurd this (hp.nz t List.mem_cons_self)
  | s :: p, t :: q, hp, hq, h => by
    have ls := hp.l4 s List.mem_cons_self
    have lt := hq.l4 t List.mem_cons_self
    have he : s.2 = t.2 := by
      rcases cmpE_val s.2 t.2 with h1 | h1 | h1
      · exfalso
        have h2 : cmpE t.2 s.2 = 1 := by rw [cmpE_swap, h1]; rfl
        have := h t.2 lt
        rw [hq.cf_head, hp.cf_above h2 lt] at this
        exact hq.nz t List.mem_cons_self this.symm
      · exact (cmpE_zero (by omega)).1 h1
      · exfalso
        have := h s.2 ls
        rw [hp.cf_head, hq.cf_above h1 ls] at this
        exact hp.nz s List.mem_cons_self this
    have hc : s.1 = t.1 := by
      have := h s.2 ls
      rw [hp.cf_head, he, hq.cf_head] at this
      exact this
    have hst : s = t := Prod.ext hc he
    subst hst
    rw [canon_unique hp.tail hq.tail fun e hl => by have := h e hl; simp only [cf] at this; omega]

theorem Canon.append_one {r : Pol} {t : Term1} (h : Canon r) (hn : t.1 ≠ 0) (h4 : t.2.length = 4) (hd : ∀ s ∈ r, cmpE s.2 t.2 = 1) : Canon (r ++ [t]) := by
  refine ⟨?_, ?_, ?_⟩
  · rw [List.pairwise_append]
    refine ⟨h.desc, List.pairwise_singleton _ _, fun a ha b hb => ?_⟩
    rw [List.mem_singleton] at hb; subst hb; exact hd a ha
  · intro s hs
    rcases List.mem_append.1 hs with hs | hs
    · exact h.nz s hs
    · rw [List.mem_singleton] at hs; subst hs; exact hn
  · intro s hs
    rcases List.mem_append.1 hs with hs | hs
    · exact h.l4 s hs
    · rw [List.mem_singleton] at hs; subst hs; exact h4
theorem Canon.init {r : Pol} {t : Term1} (h : Canon (r ++ [t])) : Canon r ∧ (∀ s ∈ r, cmpE s.2 t.2 = 1) ∧ t.2.length = 4 ∧ t.1 ≠ 0 := by
  have := List.pairwise_append.1 h.desc
  exact ⟨⟨this.1, fun s hs => h.nz s (List.mem_append_left _ hs), fun s hs => h.l4 s (List.mem_append_left _ hs)⟩, fun s hs => this.2.2 s hs t (List.mem_singleton_self _), h.l4 t (by simp), h.nz t (by simp)⟩

abbrev big : Nat := 4294967296 ^ 32
abbrev huge : Nat := 4294967296 ^ 256
theorem big_huge : big < huge := by decide
theorem digs_huge {z : Int} (h : z.natAbs < huge) : (digs z.natAbs).length ≤ 256 := digs_len_le h
theorem digs_bound {z : Int} (h : z.natAbs < big) : (digs z.natAbs).length ≤ 32 := digs_len_le h
end Go.Vc
