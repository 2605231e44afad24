/- The plain law of exact division: leading terms and the exponents' ranges of a product. -/
import Derived.Test.YtjjcncedfphnhaaRg
import Derived.Test.YtjjcncedfphnhaaRlw
namespace Go.Vc
open Go.Proofs

theorem mem_pmul {m : Term1} : ∀ {f g : Pol}, m ∈ pmulP f g → ∃ a ∈ f, ∃ b ∈ g, m = tmul b a
  | [], _, h => (List.not_mem_nil h).elim
  | s :: r, g, h => by
    rcases List.mem_append.1 h with h | h
    · obtain ⟨b, hb, rfl⟩ := List.mem_map.1 h
      exact ⟨s, by simp, b, hb, rfl⟩
    · obtain ⟨a, ha, b, hb, rfl⟩ := mem_pmul h
      exact ⟨a, by simp [ha], b, hb, rfl⟩

theorem addE_len {a b : List Nat} (ha : a.length = 4) (hb : b.length = 4) : (addE a b).length = 4 := by simp [ha, hb]

/-- every term of a product lies at or below the product of the leading terms -/
theorem pmul_le {s t : Term1} {p g : Pol} (hf : Canon (s :: p)) (hg : Canon (t :: g)) : ∀ m ∈ pmulP (s :: p) (t :: g), m.2 = addE s.2 t.2 ∨ cmpE (addE s.2 t.2) m.2 = 1 := by
  intro m hm
  obtain ⟨a, ha, b, hb, rfl⟩ := mem_pmul hm
  have hs := hf.l4 s (by simp)
  have ht := hg.l4 t (by simp)
  have ha4 := hf.l4 a ha
  have hb4 := hg.l4 b hb
  show addE b.2 a.2 = _ ∨ cmpE _ (addE b.2 a.2) = 1
  rcases List.mem_cons.1 ha with rfl | ha
  · rcases List.mem_cons.1 hb with rfl | hb
    · left; exact addE_comm _ _
    · right
      rw [addE_comm a.2 t.2, cmpE_add ht hb4 ha4]; exact hg.head_desc b hb
  · have h1 : cmpE (addE s.2 t.2) (addE a.2 t.2) = 1 := by rw [cmpE_add hs ha4 ht]; exact hf.head_desc a ha
    right
    rcases List.mem_cons.1 hb with rfl | hb
    · rw [addE_comm b.2 a.2]; exact h1
    · have h2 : cmpE (addE t.2 a.2) (addE b.2 a.2) = 1 := by rw [cmpE_add ht hb4 ha4]; exact hg.head_desc b hb
      rw [addE_comm t.2 a.2] at h2
      exact cmpE_trans1 (by rw [addE_len hs ht, addE_len ha4 ht]) (by rw [addE_len ha4 ht, addE_len hb4 ha4]) h1 (by omega)

theorem pmul_lead {s t : Term1} {p g : Pol} (hf : Canon (s :: p)) (hg : Canon (t :: g)) : cf (pmulP (s :: p) (t :: g)) (addE s.2 t.2) = s.1 * t.1 := by
  have hs := hf.l4 s (by simp)
  have ht := hg.l4 t (by simp)
  have h1 : Canon ((t :: g).map fun b => tmul b s) := canon_times hg (hf.nz s (by simp)) hs
  have h2 : cf ((t :: g).map fun b => tmul b s) (addE t.2 s.2) = t.1 * s.1 := h1.cf_head (t := tmul t s)
  have h3 : cf (pmulP p (t :: g)) (addE s.2 t.2) = 0 := cf_not_mem fun m hm he => by
    obtain ⟨a, ha, b, hb, rfl⟩ := mem_pmul hm
    have ha4 := hf.l4 a (by simp [ha])
    have hb4 := hg.l4 b hb
    have he' : addE b.2 a.2 = addE s.2 t.2 := he
    have h1 : cmpE (addE s.2 t.2) (addE a.2 t.2) = 1 := by rw [cmpE_add hs ha4 ht]; exact hf.head_desc a ha
    rcases List.mem_cons.1 hb with rfl | hb
    · rw [addE_comm b.2 a.2] at he'
      exact cmpE_one_ne h1 he'.symm
    · have h2 : cmpE (addE t.2 a.2) (addE b.2 a.2) = 1 := by rw [cmpE_add ht hb4 ha4]; exact hg.head_desc b hb
      rw [addE_comm t.2 a.2] at h2
      exact cmpE_one_ne (cmpE_trans1 (by rw [addE_len hs ht, addE_len ha4 ht]) (by rw [addE_len ha4 ht, addE_len hb4 ha4]) h1 (by omega)) he'.symm
  simp only [pmulP, cf_append]
  rw [h3, addE_comm s.2 t.2, h2, Int.add_zero, Int.mul_comm]

/-- a canonical polynomial that is a product begins with the product of the leading terms -/
theorem prod_head {f p g : Pol} {s t : Term1} (hf : Canon f) (hw : Canon (s :: p)) (hg : Canon (t :: g)) (h : ∀ e, cf f e = cf (pmulP (s :: p) (t :: g)) e) :
    ∃ f', f = (s.1 * t.1, addE s.2 t.2) :: f' := by
  have hs := hw.l4 s (by simp)
  have ht := hg.l4 t (by simp)
  have h1 : cf f (addE s.2 t.2) = s.1 * t.1 := by rw [h, pmul_lead hw hg]
  have hnz : s.1 * t.1 ≠ 0 := Int.mul_ne_zero (hw.nz s (by simp)) (hg.nz t (by simp))
  obtain ⟨u, hu, hue⟩ := cf_mem (p := f) (e := addE s.2 t.2) (by rw [h1]; exact hnz)
  match f, hf, hu with
  | v :: f', hf, hu =>
    refine ⟨f', ?_⟩
    have hv : cf (v :: f') v.2 = v.1 := hf.cf_head
    rw [h] at hv
    obtain ⟨m, hm, hme⟩ := cf_mem (p := pmulP (s :: p) (t :: g)) (e := v.2) (by rw [hv]; exact hf.nz v (by simp))
    have he : v.2 = addE s.2 t.2 := by
      rcases pmul_le hw hg m hm with h2 | h2
      · rw [← hme]; exact h2
      · rw [hme] at h2
        rcases List.mem_cons.1 hu with rfl | hu
        · exact hue
        · have h3 := hf.head_desc u hu
          rw [hue] at h3
          have := cmpE_swap v.2 (addE s.2 t.2)
          omega
    have hc : v.1 = s.1 * t.1 := by
      have h4 : cf (v :: f') v.2 = v.1 := hf.cf_head
      rw [he, h1] at h4; exact h4.symm
    rw [show v = (v.1, v.2) from rfl, hc, he]

theorem cf_pmul_filter (P : Term1 → Bool) (e : List Nat) (g : Pol) : ∀ (w : Pol), (∀ a ∈ w, P a = false → ∀ b ∈ g, addE b.2 a.2 ≠ e) → cf (pmulP w g) e = cf (pmulP (w.filter P) g) e
  | [], _ => rfl
  | s :: r, h => by
    have ih := cf_pmul_filter P e g r (fun a ha => h a (by simp [ha]))
    cases hp : P s with
    | true => rw [List.filter_cons_of_pos (by rw [hp])]; simp only [pmulP, cf_append, ih]
    | false =>
      rw [List.filter_cons_of_neg (by rw [hp]; simp)]
      simp only [pmulP, cf_append]
      rw [ih, cf_not_mem (p := g.map fun t => tmul t s), Int.zero_add]
      intro m hm
      obtain ⟨b, hb, rfl⟩ := List.mem_map.1 hm
      exact h s (by simp) hp b hb

theorem addE_getD {a b : List Nat} (ha : a.length = 4) (hb : b.length = 4) {k : Nat} (hk : k < 4) : (addE a b).getD k 0 = a.getD k 0 + b.getD k 0 := zip_getD ha hb hk

/-- an extreme exponent of the product is attained -/
theorem prod_extreme {f w g : Pol} (hw : Canon w) (hg : Canon g) (h : ∀ e, cf f e = cf (pmulP w g) e) {k c d : Nat} (hk : k < 4)
    (hc : ∃ a ∈ w, a.2.getD k 0 = c) (hd : ∃ b ∈ g, b.2.getD k 0 = d) (hx : ∀ a ∈ w, ∀ b ∈ g, a.2.getD k 0 + b.2.getD k 0 = c + d → a.2.getD k 0 = c ∧ b.2.getD k 0 = d) : ∃ u ∈ f, u.2.getD k 0 = c + d := by
  have cw := hw.filter fun t => decide (t.2.getD k 0 = c)
  have cg := hg.filter fun t => decide (t.2.getD k 0 = d)
  have mw : ∀ a ∈ w.filter fun t => decide (t.2.getD k 0 = c), a ∈ w ∧ a.2.getD k 0 = c := fun a ha => by
    have := List.mem_filter.1 ha; exact ⟨this.1, by simpa using this.2⟩
  have mg : ∀ a ∈ g.filter fun t => decide (t.2.getD k 0 = d), a ∈ g ∧ a.2.getD k 0 = d := fun a ha => by
    have := List.mem_filter.1 ha; exact ⟨this.1, by simpa using this.2⟩
  obtain ⟨a0, ha0, hac⟩ := hc
  obtain ⟨b0, hb0, hbd⟩ := hd
  have nw : a0 ∈ w.filter fun t => decide (t.2.getD k 0 = c) := List.mem_filter.2 ⟨ha0, by simpa using hac⟩
  have ng : b0 ∈ g.filter fun t => decide (t.2.getD k 0 = d) := List.mem_filter.2 ⟨hb0, by simpa using hbd⟩
  match hW : w.filter (fun t => decide (t.2.getD k 0 = c)), hG : g.filter (fun t => decide (t.2.getD k 0 = d)) with
  | [], _ => rw [hW] at nw; exact (List.not_mem_nil nw).elim
  | _ :: _, [] => rw [hG] at ng; exact (List.not_mem_nil ng).elim
  | s :: p, t :: q =>
    rw [hW] at cw mw
    rw [hG] at cg mg
    have hs := mw s (by simp)
    have ht := mg t (by simp)
    have hs4 := hw.l4 s hs.1
    have ht4 := hg.l4 t ht.1
    have hek : (addE s.2 t.2).getD k 0 = c + d := by rw [addE_getD hs4 ht4 hk, hs.2, ht.2]
    have e1 : cf (pmulP w g) (addE s.2 t.2) = cf (pmulP (s :: p) g) (addE s.2 t.2) := by
      rw [← hW]
      refine cf_pmul_filter _ _ g w fun a ha hP b hb he => ?_
      have h1 : (addE b.2 a.2).getD k 0 = c + d := by rw [he]; exact hek
      rw [addE_getD (hg.l4 b hb) (hw.l4 a ha) hk] at h1
      have := (hx a ha b hb (by omega)).1
      exact (of_decide_eq_false hP) this
    have e2 : cf (pmulP (s :: p) g) (addE s.2 t.2) = cf (pmulP (s :: p) (t :: q)) (addE s.2 t.2) := by
      rw [cf_pmul_comm (s :: p) g, cf_pmul_comm (s :: p) (t :: q), ← hG]
      refine cf_pmul_filter _ _ (s :: p) g fun b hb hP a ha he => ?_
      have ha' := mw a ha
      have h1 : (addE a.2 b.2).getD k 0 = c + d := by rw [he]; exact hek
      rw [addE_getD (hw.l4 a ha'.1) (hg.l4 b hb) hk] at h1
      have := (hx a ha'.1 b hb (by omega)).2
      exact (of_decide_eq_false hP) this
    have e3 := pmul_lead cw cg
    obtain ⟨u, hu, hue⟩ := cf_mem (p := f) (e := addE s.2 t.2) (by
      rw [h, e1, e2, e3]; exact Int.mul_ne_zero (cw.nz s (by simp)) (cg.nz t (by simp)))
    exact ⟨u, hu, by rw [hue]; exact hek⟩

theorem prod_pair {f w g : Pol} (hf : Canon f) (h : ∀ e, cf f e = cf (pmulP w g) e) {u : Term1} (hu : u ∈ f) : ∃ a ∈ w, ∃ b ∈ g, u.2 = addE b.2 a.2 := by
  have h1 := hf.cf_term u hu
  rw [h] at h1
  obtain ⟨m, hm, hme⟩ := cf_mem (p := pmulP w g) (e := u.2) (by rw [h1]; exact hf.nz u hu)
  obtain ⟨a, ha, b, hb, rfl⟩ := mem_pmul hm
  exact ⟨a, ha, b, hb, hme.symm⟩

theorem prod_hi {f w g : Pol} (hf : Canon f) (hw : Canon w) (hg : Canon g) (h : ∀ e, cf f e = cf (pmulP w g) e) {fh wh gh : List Nat} (h1 : IsHi f fh) (h2 : IsHi w wh) (h3 : IsHi g gh) {k : Nat} (hk : k < 4) : fh.getD k 0 = wh.getD k 0 + gh.getD k 0 := by
  obtain ⟨b1, u, hu, hue⟩ := h1.2 k hk
  obtain ⟨b2, a0, ha0, hae⟩ := h2.2 k hk
  obtain ⟨b3, c0, hc0, hce⟩ := h3.2 k hk
  obtain ⟨v, hv, hve⟩ := prod_extreme hw hg h hk (c := wh.getD k 0) (d := gh.getD k 0) ⟨a0, ha0, hae⟩ ⟨c0, hc0, hce⟩ (fun a ha b hb he => by have := b2 a ha; have := b3 b hb; omega)
  obtain ⟨a, ha, b, hb, he⟩ := prod_pair hf h hu
  have e1 : u.2.getD k 0 = b.2.getD k 0 + a.2.getD k 0 := by rw [he]; exact addE_getD (hg.l4 b hb) (hw.l4 a ha) hk
  have := b1 v hv; have := b2 a ha; have := b3 b hb
  omega
theorem prod_lo {f w g : Pol} (hf : Canon f) (hw : Canon w) (hg : Canon g) (h : ∀ e, cf f e = cf (pmulP w g) e) {fh wh gh : List Nat} (h1 : IsLo f fh) (h2 : IsLo w wh) (h3 : IsLo g gh) {k : Nat} (hk : k < 4) : fh.getD k 0 = wh.getD k 0 + gh.getD k 0 := by
  obtain ⟨b1, u, hu, hue⟩ := h1.2 k hk
  obtain ⟨b2, a0, ha0, hae⟩ := h2.2 k hk
  obtain ⟨b3, c0, hc0, hce⟩ := h3.2 k hk
  obtain ⟨v, hv, hve⟩ := prod_extreme hw hg h hk (c := wh.getD k 0) (d := gh.getD k 0) ⟨a0, ha0, hae⟩ ⟨c0, hc0, hce⟩ (fun a ha b hb he => by have := b2 a ha; have := b3 b hb; omega)
  obtain ⟨a, ha, b, hb, he⟩ := prod_pair hf h hu
  have e1 : u.2.getD k 0 = b.2.getD k 0 + a.2.getD k 0 := by rw [he]; exact addE_getD (hg.l4 b hb) (hw.l4 a ha) hk
  have := b1 v hv; have := b2 a ha; have := b3 b hb
  omega
end Go.Vc
