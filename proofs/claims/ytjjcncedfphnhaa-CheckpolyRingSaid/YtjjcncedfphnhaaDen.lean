/- The values of polynomials: plain facts. -/
import Derived.Test.YtjjcncedfphnhaaMul
namespace Go.Vc

def monV : List Int → List Nat → Int
  | a :: x, n :: e => a ^ n * monV x e
  | _, _ => 1
def den (x : List Int) : Pol → Int
  | [] => 0
  | t :: r => t.1 * monV x t.2 + den x r

theorem den_append (x : List Int) (p q : Pol) : den x (p ++ q) = den x p + den x q := by
  induction p with
  | nil => simp [den]
  | cons t r ih => simp only [List.cons_append, den, ih]; omega

/-- the terms with an exponent, and the others -/
theorem den_split (x : List Int) (e : List Nat) (p : Pol) : den x p = cf p e * monV x e + den x (p.filter fun t => decide (t.2 ≠ e)) := by
  induction p with
  | nil => simp [den, cf]
  | cons t r ih =>
    by_cases h : t.2 = e
    · rw [List.filter_cons_of_neg (by simpa using h)]
      simp only [den, cf, if_pos h]
      rw [ih, Int.add_mul, h]; omega
    · rw [List.filter_cons_of_pos (by simpa using h)]
      simp only [den, cf, if_neg h]
      rw [ih]; simp; omega
theorem cf_filter_ne (e e' : List Nat) (p : Pol) : cf (p.filter fun t => decide (t.2 ≠ e)) e' = if e' = e then 0 else cf p e' := by
  induction p with
  | nil => simp [cf]
  | cons t r ih =>
    by_cases h : t.2 = e
    · rw [List.filter_cons_of_neg (by simpa using h), ih]
      simp only [cf]
      by_cases h' : e' = e
      · rw [if_pos h', if_pos h']
      · rw [if_neg h', if_neg h', if_neg (by rw [h]; exact fun x => h' x.symm)]; omega
    · rw [List.filter_cons_of_pos (by simpa using h)]
      simp only [cf, ih]
      by_cases h' : e' = e
      · rw [if_pos h', if_pos h', if_neg (by rw [h']; exact h)]; rfl
      · rw [if_neg h', if_neg h']
theorem den_zero (x : List Int) : ∀ (n : Nat) (p : Pol), p.length ≤ n → (∀ e, cf p e = 0) → den x p = 0
  | _, [], _, _ => rfl
  | 0, _ :: _, h, _ => by simp at h
  | n + 1, t :: r, h, hc => by
    rw [den_split x t.2, hc, Int.zero_mul, Int.zero_add]
    refine den_zero x n _ ?_ fun e => ?_
    · rw [List.filter_cons_of_neg (by simp)]
      have := List.length_filter_le (fun s : Term1 => decide (s.2 ≠ t.2)) r
      simp only [List.length_cons] at h; omega
    · rw [cf_filter_ne]; split
      · rfl
      · exact hc e
theorem den_neg (x : List Int) (p : Pol) : den x (negP p) = -den x p := by
  induction p with
  | nil => rfl
  | cons t r ih =>
    show (-t.1) * monV x t.2 + den x (negP r) = -(t.1 * monV x t.2 + den x r)
    rw [ih, Int.neg_mul]; omega
theorem den_congr (x : List Int) {p q : Pol} (h : ∀ e, cf p e = cf q e) : den x p = den x q := by
  have h0 := den_zero x _ (p ++ negP q) (Nat.le_refl _) fun e => by rw [cf_append, cf_neg, h]; omega
  rw [den_append, den_neg] at h0
  omega

theorem monV_add : ∀ (x : List Int) (a b : List Nat), a.length = b.length → monV x (List.zipWith (· + ·) a b) = monV x a * monV x b
  | [], [], [], _ => by simp [monV]
  | [], _ :: _, _ :: _, _ => by simp [monV]
  | _ :: _, [], [], _ => by simp [monV]
  | c :: x, m :: a, n :: b, h => by
    simp only [List.zipWith_cons_cons, monV]
    rw [monV_add x a b (by simpa using h), Int.pow_add]
    rw [Int.mul_assoc, Int.mul_assoc, Int.mul_left_comm (c ^ n)]
theorem den_times (x : List Int) (s : Term1) (hs : s.2.length = 4) : ∀ (g : Pol), L4 g → den x (g.map fun t => tmul t s) = s.1 * monV x s.2 * den x g
  | [], _ => by simp [den]
  | t :: g, h => by
    simp only [List.map_cons, den]
    rw [den_times x s hs g h.tail.2, Int.mul_add]
    congr 1
    show t.1 * s.1 * monV x (List.zipWith (· + ·) t.2 s.2) = _
    rw [monV_add x t.2 s.2 (by rw [hs, h.tail.1])]
    show t.1 * s.1 * (monV x t.2 * monV x s.2) = s.1 * monV x s.2 * (t.1 * monV x t.2)
    ac_rfl
theorem den_pmul (x : List Int) : ∀ {f g : Pol}, L4 f → L4 g → den x (pmulP f g) = den x f * den x g
  | [], g, _, _ => by simp [pmulP, den]
  | s :: f, g, hf, hg => by
    simp only [pmulP, den_append, den]
    rw [den_times x s hf.tail.1 g hg, den_pmul x hf.tail.2 hg, Int.add_mul]

/-! ### bounds -/
theorem natAbs_pow_le (a : Int) (M : Nat) (h : a.natAbs ≤ M) (n : Nat) : (a ^ n).natAbs ≤ M ^ n := by
  rw [Int.natAbs_pow]; exact Nat.pow_le_pow_left h n
theorem monV_le (M : Nat) (hM : 1 ≤ M) (B : Nat) : ∀ (x : List Int) (e : List Nat), (∀ a ∈ x, a.natAbs ≤ M) → (∀ n ∈ e, n ≤ B) → (monV x e).natAbs ≤ M ^ (B * e.length)
  | [], [], _, _ => by simp [monV]
  | [], n :: e, _, _ => by simp only [monV]; exact Nat.one_le_pow _ _ hM
  | _ :: _, [], _, _ => by simp [monV]
  | a :: x, n :: e, hx, he => by
    have ih := monV_le M hM B x e (fun b hb => hx b (List.mem_cons_of_mem _ hb)) (fun b hb => he b (List.mem_cons_of_mem _ hb))
    simp only [monV, Int.natAbs_mul, List.length_cons]
    have h1 := natAbs_pow_le a M (hx a List.mem_cons_self) n
    have h2 : M ^ n ≤ M ^ B := Nat.pow_le_pow_right hM (he n List.mem_cons_self)
    rw [show B * (e.length + 1) = B + B * e.length by rw [Nat.mul_add]; omega, Nat.pow_add]
    exact Nat.mul_le_mul (Nat.le_trans h1 h2) ih
theorem den_le (M : Nat) (hM : 1 ≤ M) (B : Nat) (x : List Int) (hx : ∀ a ∈ x, a.natAbs ≤ M) : ∀ (p : Pol), L4 p → ExpB p B → (den x p).natAbs ≤ norm1 p * M ^ (B * 4)
  | [], _, _ => by simp [den]
  | t :: r, h4, hB => by
    have ih := den_le M hM B x hx r h4.tail.2 (fun s hs => hB s (List.mem_cons_of_mem _ hs))
    have hm := monV_le M hM B x t.2 hx (hB t List.mem_cons_self)
    rw [h4.tail.1] at hm
    simp only [den, norm1, Nat.add_mul]
    have h1 : (t.1 * monV x t.2).natAbs ≤ t.1.natAbs * M ^ (B * 4) := by rw [Int.natAbs_mul]; exact Nat.mul_le_mul_left _ hm
    have := Int.natAbs_add_le (t.1 * monV x t.2) (den x r)
    omega

theorem monV_set_succ : ∀ (x : List Int) (p : List Nat) (k n : Nat) (_ : k < p.length) (hx : k < x.length), monV x (p.set k (n + 1)) = monV x (p.set k n) * x[k]
  | a :: x, m :: p, 0, n, _, _ => by
    simp only [List.set_cons_zero, monV, List.getElem_cons_zero]
    rw [Int.pow_succ, Int.mul_right_comm]
  | a :: x, m :: p, k + 1, n, hp, hx => by
    simp only [List.set_cons_succ, monV, List.getElem_cons_succ]
    rw [monV_set_succ x p k n (by simpa using hp) (by simpa using hx), Int.mul_assoc]
end Go.Vc
