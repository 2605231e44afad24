/- How many terms a canonical polynomial with small exponents may have. -/
import Derived.Test.YtjjcncedfphnhaaXl
namespace Go.Vc
open Go.Proofs

/-- the rank of exponents, where no one is M or greater -/
def rankE (M : Nat) : List Nat → Nat
  | [e0, e1, e2, e3] => e0 + M * (e1 + M * (e2 + M * e3))
  | _ => 0
theorem rank_step {M x x' y y' : Nat} (hy : y < M) (h : y' < x') : y + M * y' < x + M * x' := by
  have h1 : M * (y' + 1) ≤ M * x' := Nat.mul_le_mul_left M h
  rw [Nat.mul_add, Nat.mul_one] at h1
  omega
theorem rank_lt {M : Nat} {a b : List Nat} (ha : a.length = 4) (hb : b.length = 4) (hB : ∀ x ∈ b, x < M) (h : cmpE a b = 1) : rankE M b < rankE M a := by
  obtain ⟨a0, a1, a2, a3, rfl⟩ := four ha
  obtain ⟨b0, b1, b2, b3, rfl⟩ := four hb
  have h0 := hB b0 (by simp)
  have h1 := hB b1 (by simp)
  have h2 := hB b2 (by simp)
  have h3 := hB b3 (by simp)
  have h' : (if a3 < b3 then (-1 : Int) else if b3 < a3 then 1 else if a2 < b2 then -1 else if b2 < a2 then 1 else if a1 < b1 then -1 else if b1 < a1 then 1 else if a0 < b0 then -1 else if b0 < a0 then 1 else 0) = 1 := h
  show b0 + M * (b1 + M * (b2 + M * b3)) < a0 + M * (a1 + M * (a2 + M * a3))
  rcases Nat.lt_trichotomy b3 a3 with c3 | rfl | c3
  · exact rank_step h0 (rank_step h1 (rank_step h2 c3))
  · rcases Nat.lt_trichotomy b2 a2 with c2 | rfl | c2
    · exact rank_step h0 (rank_step h1 (by omega))
    · rcases Nat.lt_trichotomy b1 a1 with c1 | rfl | c1
      · exact rank_step h0 (by omega)
      · rcases Nat.lt_trichotomy b0 a0 with c0 | rfl | c0
        · omega
        · simp at h'
        · simp [Nat.not_lt.2 (Nat.le_of_lt c0), c0] at h'
      · simp [Nat.not_lt.2 (Nat.le_of_lt c1), c1] at h'
    · simp [Nat.not_lt.2 (Nat.le_of_lt c2), c2] at h'
  · simp [c3] at h'
theorem rank_max {M : Nat} {b : List Nat} (hb : b.length = 4) (hB : ∀ x ∈ b, x < M) : rankE M b < M * (M * (M * M)) := by
  obtain ⟨b0, b1, b2, b3, rfl⟩ := four hb
  have h0 := hB b0 (by simp)
  have h1 := hB b1 (by simp)
  have h2 := hB b2 (by simp)
  have h3 := hB b3 (by simp)
  have := rank_step (x := 0) h0 (rank_step (x := 0) h1 (rank_step (x := 0) h2 h3))
  show b0 + M * (b1 + M * (b2 + M * b3)) < _
  simpa using this
theorem rank_count {M : Nat} : ∀ {q : Pol} {t : Term1}, Canon (t :: q) → (∀ u ∈ t :: q, ∀ x ∈ u.2, x < M) → q.length ≤ rankE M t.2
  | [], _, _, _ => Nat.zero_le _
  | u :: q, t, h, hB => by
    have ih := rank_count h.tail (fun v hv => hB v (by simp [hv]))
    have := rank_lt (M := M) (h.l4 t (by simp)) (h.l4 u (by simp)) (hB u (by simp)) (h.head_desc u (by simp))
    simp only [List.length_cons]; omega
theorem canon_count {q : Pol} {H : Nat} (h : Canon q) (hB : ExpB q H) : q.length ≤ (H + 1) * ((H + 1) * ((H + 1) * (H + 1))) := by
  match q, h, hB with
  | [], _, _ => exact Nat.zero_le _
  | t :: q, h, hB =>
    have h1 := rank_count (M := H + 1) h (fun u hu x hx => Nat.lt_succ_of_le (hB u hu x hx))
    have h2 := rank_max (M := H + 1) (h.l4 t (by simp)) (fun x hx => Nat.lt_succ_of_le (hB t (by simp) x hx))
    simp only [List.length_cons]; omega
end Go.Vc
