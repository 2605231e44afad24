/- The invariant of the division of polynomials. -/
import Derived.Test.YtjjcncedfphnhaaXr
namespace Go.Vc
open Go.Proofs

/-- w is the quotient of f by g -/
def QuoOf (f g w : Pol) : Prop := Canon w ∧ ∀ e, cf f e = cf (pmulP w g) e

structure DivInv (H B : Nat) (f : Pol) (t0 : Term1) (g q r : Pol) : Prop where
  cq : Canon q
  qB : ExpB q H
  cr : Canon r
  rB : ExpB r B
  eq : ∀ e, cf f e = cf (pmulP q (t0 :: g)) e + cf r e
  low : ∀ s ∈ q, ∀ u ∈ r, cmpE (addE s.2 t0.2) u.2 = 1
  own : ∀ w, QuoOf f (t0 :: g) w → ∃ r', w = q ++ r' ∧ ∀ e, cf r e = cf (pmulP r' (t0 :: g)) e
  norm : norm1 q + norm1 r ≤ norm1 f * (1 + norm1 (t0 :: g)) ^ q.length
  len : r.length ≤ f.length + q.length * g.length

theorem DivInv.start {H B : Nat} {f g : Pol} {t0 : Term1} (hf : Canon f) (hB : ExpB f B) : DivInv H B f t0 g [] f :=
  ⟨Canon.nil, fun _ h => (List.not_mem_nil h).elim, hf, hB, fun e => by simp [pmulP, cf], fun _ h => (List.not_mem_nil h).elim, fun w hw => ⟨w, rfl, hw.2⟩, by simp [norm1], by simp⟩

theorem cf_neg_times (t : Term1) (e : List Nat) : ∀ g : Pol, cf (g.map fun b => tmul b (-t.1, t.2)) e = -cf (g.map fun b => tmul b t) e
  | [] => rfl
  | b :: g => by
    have ih := cf_neg_times t e g
    simp only [List.map_cons, cf, tmul] at ih ⊢
    split
    · rw [Int.mul_neg]; omega
    · omega
theorem addE_cancel {a b c : List Nat} (ha : a.length = 4) (hb : b.length = 4) (hc : c.length = 4) (h : addE a c = addE b c) : a = b := by
  have h1 := cmpE_add (c := c) ha hb hc
  rw [h, (cmpE_zero rfl).2 rfl] at h1
  exact (cmpE_zero (by omega)).1 h1.symm

/-- if there is a quotient, the next leading term is that of its rest times that of the divisor -/
theorem DivInv.next {H B : Nat} {f g q r : Pol} {t0 u : Term1} (i : DivInv H B f t0 g q (u :: r)) (hg : Canon (t0 :: g)) {w : Pol} (hw : QuoOf f (t0 :: g) w) :
    ∃ t r', w = q ++ t :: r' ∧ u = tmul t t0 ∧ t.2.length = 4 ∧ t ∈ w ∧ ∀ e, cf (u :: r) e = cf (pmulP (t :: r') (t0 :: g)) e := by
  obtain ⟨r', hr, hc⟩ := i.own w hw
  match r', hr, hc with
  | [], hr, hc =>
    have := hc u.2
    rw [i.cr.cf_head] at this
    exact absurd this (i.cr.nz u (by simp))
  | t :: r', hr, hc =>
    have hcw : Canon (t :: r') := by
      have := hw.1.drop q.length
      rw [hr, List.drop_left] at this; exact this
    obtain ⟨f', hf'⟩ := prod_head i.cr hcw hg hc
    injection hf' with h1 h2
    exact ⟨t, r', hr, h1, hcw.l4 t (by simp), by rw [hr]; simp, hc⟩

theorem DivInv.step {H B : Nat} {f g q r z : Pol} {t0 u t : Term1} (i : DivInv H B f t0 g q (u :: r)) (hg : Canon (t0 :: g)) (hut : u = tmul t t0) (ht4 : t.2.length = 4) (htH : ∀ x ∈ t.2, x ≤ H)
    (htB : ExpB (g.map fun b => tmul b (-t.1, t.2)) B) (hz : IsSum r (g.map fun b => tmul b (-t.1, t.2)) z) : DivInv H B f t0 g (q ++ [t]) z := by
  have hu := i.cr.nz u (by simp)
  have hu4 := i.cr.l4 u (by simp)
  have h04 := hg.l4 t0 (by simp)
  have h0n := hg.nz t0 (by simp)
  have hue : u.2 = addE t.2 t0.2 := by rw [hut]; rfl
  have hu1 : u.1 = t.1 * t0.1 := by rw [hut]; rfl
  have ht0 : t.1 ≠ 0 := fun e => hu (by rw [hu1, e, Int.zero_mul])
  have hzcf : ∀ e, cf z e = cf r e - cf (g.map fun b => tmul b t) e := fun e => by rw [hz.cf, cf_neg_times]; omega
  have hgt : ∀ e, cf ((t0 :: g).map fun b => tmul b t) e = (if u.2 = e then u.1 else 0) + cf (g.map fun b => tmul b t) e := fun e => by
    simp only [List.map_cons, cf, tmul]
    rw [hue, hu1, addE_comm t.2 t0.2, Int.mul_comm t.1 t0.1]
  have hzmem : ∀ v ∈ z, (∃ a ∈ r, a.2 = v.2) ∨ (∃ b ∈ g, addE b.2 t.2 = v.2) := fun v hv => by
    have h1 := hz.canon.cf_term v hv
    rw [hz.cf, ← cf_append] at h1
    obtain ⟨m, hm, hme⟩ := cf_mem (p := r ++ g.map fun b => tmul b (-t.1, t.2)) (e := v.2) (by rw [h1]; exact hz.canon.nz v hv)
    rcases List.mem_append.1 hm with hm | hm
    · exact .inl ⟨m, hm, hme⟩
    · obtain ⟨b, hb, rfl⟩ := List.mem_map.1 hm
      exact .inr ⟨b, hb, hme⟩
  have hbelow : ∀ v ∈ z, cmpE u.2 v.2 = 1 := fun v hv => by
    rcases hzmem v hv with ⟨a, ha, he⟩ | ⟨b, hb, he⟩
    · rw [← he]; exact i.cr.head_desc a ha
    · rw [← he, hue, addE_comm t.2 t0.2, cmpE_add h04 (hg.l4 b (by simp [hb])) ht4]; exact hg.head_desc b hb
  refine ⟨?_, ?_, hz.canon, ?_, ?_, ?_, ?_, ?_, ?_⟩
  · refine i.cq.append_one ht0 ht4 fun s hs => ?_
    have := i.low s hs u (by simp)
    rw [hue, cmpE_add (i.cq.l4 s hs) ht4 h04] at this
    exact this
  · intro s hs
    rcases List.mem_append.1 hs with hs | hs
    · exact i.qB s hs
    · rw [List.mem_singleton.1 hs]; exact htH
  · refine hz.canon.expB (p := r ++ g.map fun b => tmul b (-t.1, t.2)) (fun e => by rw [hz.cf, cf_append]) fun s hs => ?_
    rcases List.mem_append.1 hs with hs | hs
    · exact i.rB s (by simp [hs])
    · exact htB s hs
  · intro e
    rw [i.eq e, pmulP_append, cf_append, hzcf]
    simp only [pmulP, List.append_nil]
    rw [hgt e]; simp only [cf]; omega
  · intro s hs v hv
    rcases List.mem_append.1 hs with hs | hs
    · have h1 := i.low s hs u (by simp)
      have h2 := hbelow v hv
      have h3 := addE_len (i.cq.l4 s hs) h04
      have h4 := hz.canon.l4 v hv
      exact cmpE_trans1 (by omega) (by omega) h1 (by omega)
    · rw [List.mem_singleton.1 hs, ← hue]; exact hbelow v hv
  · intro w hw
    obtain ⟨t', r', hr, hu', ht4', -, hc⟩ := i.next hg hw
    have hte : t' = t := by
      have h1 : u.1 = t'.1 * t0.1 := by rw [hu']; rfl
      have h2 : u.2 = addE t'.2 t0.2 := by rw [hu']; rfl
      have e1 : t'.1 = t.1 := Int.eq_of_mul_eq_mul_right h0n (by rw [← h1, ← hu1])
      have e2 : t'.2 = t.2 := addE_cancel ht4' ht4 h04 (by rw [← h2, ← hue])
      rw [show t' = (t'.1, t'.2) from rfl, e1, e2]
    subst hte
    refine ⟨r', by rw [hr]; simp, fun e => ?_⟩
    have h1 := hc e
    simp only [pmulP, cf_append] at h1
    rw [hgt e] at h1
    rw [hzcf]; simp only [cf] at h1; omega
  · have h1 := hz.norm
    have h2 := i.norm
    rw [norm1_times] at h1
    have h3 : t.1.natAbs ≤ u.1.natAbs := by
      rw [hu1, Int.natAbs_mul]
      exact Nat.le_mul_of_pos_right _ (by omega)
    have h4 : norm1 (u :: r) = u.1.natAbs + norm1 r := rfl
    have h5 : norm1 (t0 :: g) = t0.1.natAbs + norm1 g := rfl
    rw [List.length_append, List.length_singleton, Nat.pow_succ, ← Nat.mul_assoc]
    refine Nat.le_trans ?_ (Nat.mul_le_mul_right _ h2)
    rw [norm1_append, Nat.mul_add, Nat.mul_one]
    have h6 : norm1 g * (-t.1).natAbs ≤ norm1 (u :: r) * norm1 (t0 :: g) := by
      rw [Nat.mul_comm, Int.natAbs_neg]
      exact Nat.mul_le_mul (by omega) (by omega)
    have h7 : norm1 [t] = t.1.natAbs := rfl
    have h1' : norm1 z ≤ norm1 r + norm1 g * (-t.1).natAbs := h1
    have h8 : norm1 r + t.1.natAbs ≤ norm1 (u :: r) := by omega
    have h9 : norm1 q + norm1 (u :: r) + norm1 (u :: r) * norm1 (t0 :: g) ≤ norm1 q + norm1 (u :: r) + (norm1 q + norm1 (u :: r)) * norm1 (t0 :: g) := by
      rw [Nat.add_mul]; omega
    omega
  · have h1 := hz.len
    have h2 := i.len
    simp only [List.length_map, List.length_cons] at h1 h2
    rw [List.length_append, List.length_singleton, Nat.add_mul, Nat.one_mul]
    omega
end Go.Vc
