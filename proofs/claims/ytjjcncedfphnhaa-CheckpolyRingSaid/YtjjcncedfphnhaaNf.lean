/- Polynomials up to their coefficients, and the normal form as a function. -/
import Derived.Test.YtjjcncedfphnhaaDen
namespace Go.Vc

/-- equal coefficients -/
def Eqv (p q : Pol) : Prop := ∀ e, cf p e = cf q e
theorem Eqv.rfl {p : Pol} : Eqv p p := fun _ => Eq.refl _
theorem Eqv.symm {p q : Pol} (h : Eqv p q) : Eqv q p := fun e => (h e).symm
theorem Eqv.trans {p q r : Pol} (h : Eqv p q) (k : Eqv q r) : Eqv p r := fun e => (h e).trans (k e)
theorem Eqv.of_eq {p q : Pol} (h : p = q) : Eqv p q := h ▸ Eqv.rfl
theorem Eqv.append {p q p' q' : Pol} (h : Eqv p p') (k : Eqv q q') : Eqv (p ++ q) (p' ++ q') := fun e => by rw [cf_append, cf_append, h, k]
theorem Eqv.neg {p q : Pol} (h : Eqv p q) : Eqv (negP p) (negP q) := fun e => by rw [cf_neg, cf_neg, h]
theorem Eqv.comm (p q : Pol) : Eqv (p ++ q) (q ++ p) := fun e => by rw [cf_append, cf_append]; omega
theorem Eqv.cancel (p : Pol) : Eqv (p ++ negP p) [] := fun e => by rw [cf_append, cf_neg]; simp [cf]; omega

/-- sums over the terms -/
def lin (φ : List Nat → Int) : Pol → Int
  | [] => 0
  | t :: r => t.1 * φ t.2 + lin φ r
theorem lin_append (φ : List Nat → Int) (p q : Pol) : lin φ (p ++ q) = lin φ p + lin φ q := by
  induction p with
  | nil => simp [lin]
  | cons t r ih => simp only [List.cons_append, lin, ih]; omega
theorem lin_split (φ : List Nat → Int) (e : List Nat) (p : Pol) : lin φ p = cf p e * φ e + lin φ (p.filter fun t => decide (t.2 ≠ e)) := by
  induction p with
  | nil => simp [lin, cf]
  | cons t r ih =>
    by_cases h : t.2 = e
    · rw [List.filter_cons_of_neg (by simpa using h)]
      simp only [lin, cf, if_pos h]
      rw [ih, Int.add_mul, h]; omega
    · rw [List.filter_cons_of_pos (by simpa using h)]
      simp only [lin, cf, if_neg h]
      rw [ih]; simp; omega
theorem lin_zero (φ : List Nat → Int) : ∀ (n : Nat) (p : Pol), p.length ≤ n → (∀ e, cf p e = 0) → lin φ p = 0
  | _, [], _, _ => rfl
  | 0, _ :: _, h, _ => by simp at h
  | n + 1, t :: r, h, hc => by
    rw [lin_split φ t.2, hc, Int.zero_mul, Int.zero_add]
    refine lin_zero φ n _ ?_ fun e => ?_
    · rw [List.filter_cons_of_neg (by simp)]
      have := List.length_filter_le (fun s : Term1 => decide (s.2 ≠ t.2)) r
      simp only [List.length_cons] at h; omega
    · rw [cf_filter_ne]; split
      · rfl
      · exact hc e
theorem lin_neg (φ : List Nat → Int) (p : Pol) : lin φ (negP p) = -lin φ p := by
  induction p with
  | nil => rfl
  | cons t r ih =>
    show (-t.1) * φ t.2 + lin φ (negP r) = -(t.1 * φ t.2 + lin φ r)
    rw [ih, Int.neg_mul]; omega
theorem lin_congr (φ : List Nat → Int) {p q : Pol} (h : Eqv p q) : lin φ p = lin φ q := by
  have h0 := lin_zero φ _ (p ++ negP q) (Nat.le_refl _) fun e => by rw [cf_append, cf_neg, h]; omega
  rw [lin_append, lin_neg] at h0
  omega

/-- how often the exponents e come in a shift of g -/
def shf (g : Pol) (e a : List Nat) : Int := cf (g.map fun t => (t.1, addE t.2 a)) e
theorem cf_times_shf (g : Pol) (s : Term1) (e : List Nat) : cf (g.map fun t => tmul t s) e = s.1 * shf g e s.2 := by
  unfold shf
  induction g with
  | nil => simp [cf]
  | cons t r ih =>
    have ih' : cf (r.map fun t => (t.1 * s.1, addE t.2 s.2)) e = s.1 * cf (r.map fun t => (t.1, addE t.2 s.2)) e := ih
    simp only [List.map_cons, cf, tmul, ih']
    split
    · rw [Int.mul_add, Int.mul_comm t.1]
    · simp
theorem cf_pmul_lin (f g : Pol) (e : List Nat) : cf (pmulP f g) e = lin (shf g e) f := by
  induction f with
  | nil => rfl
  | cons s r ih => simp only [pmulP, cf_append, lin, cf_times_shf, ih]
theorem Eqv.pmul_left {f f' : Pol} (h : Eqv f f') (g : Pol) : Eqv (pmulP f g) (pmulP f' g) := fun e => by rw [cf_pmul_lin, cf_pmul_lin, lin_congr _ h]
theorem pmul_comm (f g : Pol) : Eqv (pmulP f g) (pmulP g f) := fun e => cf_pmul_comm f g e
theorem Eqv.pmul {f f' g g' : Pol} (h : Eqv f f') (k : Eqv g g') : Eqv (pmulP f g) (pmulP f' g') :=
  (h.pmul_left g).trans ((pmul_comm f' g).trans ((k.pmul_left f').trans (pmul_comm g' f')))

theorem addE_assoc : ∀ (a b c : List Nat), addE (addE a b) c = addE a (addE b c)
  | [], _, _ => by simp [addE]
  | _ :: _, [], _ => by simp [addE]
  | _ :: _, _ :: _, [] => by simp [addE]
  | x :: a, y :: b, z :: c => by
    have ih := addE_assoc a b c
    simp only [addE, List.zipWith_cons_cons] at ih ⊢
    rw [ih, Nat.add_assoc]
theorem tmul_assoc (s t u : Term1) : tmul (tmul s t) u = tmul s (tmul t u) := by
  unfold tmul
  rw [Int.mul_assoc, addE_assoc]
theorem pmul_map (g h : Pol) (t : Term1) : (pmulP g h).map (fun u => tmul u t) = pmulP (g.map fun s => tmul s t) h := by
  induction g with
  | nil => rfl
  | cons s r ih =>
    simp only [pmulP, List.map_append, List.map_cons, ih, List.map_map]
    congr 1
    refine List.map_congr_left fun u _ => ?_
    exact tmul_assoc u s t
theorem pmul_assoc (f g h : Pol) : pmulP (pmulP f g) h = pmulP f (pmulP g h) := by
  induction f with
  | nil => rfl
  | cons s r ih => simp only [pmulP, pmulP_append, ih, pmul_map]
theorem pmul_add (f g h : Pol) : Eqv (pmulP f (g ++ h)) (pmulP f g ++ pmulP f h) :=
  (pmul_comm f (g ++ h)).trans ((Eqv.of_eq (pmulP_append g h f)).trans ((pmul_comm g f).append (pmul_comm h f)))
theorem pmul_neg (f g : Pol) : pmulP (negP f) g = negP (pmulP f g) := by
  induction f with
  | nil => rfl
  | cons s r ih =>
    show pmulP ((-s.1, s.2) :: negP r) g = negP (pmulP (s :: r) g)
    simp only [pmulP, ih]
    unfold negP
    rw [List.map_append]
    congr 1
    rw [List.map_map]
    refine List.map_congr_left fun t _ => ?_
    simp [tmul, Int.mul_neg]
theorem pmul_l4 {f g : Pol} (hf : L4 f) (hg : L4 g) : L4 (pmulP f g) := by
  induction f with
  | nil => exact fun _ h => (List.not_mem_nil h).elim
  | cons s r ih =>
    intro t ht
    rcases List.mem_append.1 ht with ht | ht
    · obtain ⟨u, hu, rfl⟩ := List.mem_map.1 ht
      show (addE u.2 s.2).length = 4
      simp [hg u hu, hf s (by simp)]
    · exact ih (fun u hu => hf u (by simp [hu])) t ht
theorem L4.append {f g : Pol} (hf : L4 f) (hg : L4 g) : L4 (f ++ g) := fun t ht => (List.mem_append.1 ht).elim (hf t) (hg t)
theorem L4.neg {f : Pol} (hf : L4 f) : L4 (negP f) := fun t ht => by
  obtain ⟨u, hu, rfl⟩ := List.mem_map.1 ht
  exact hf u hu

/-! ### the normal form -/
def insT (t : Term1) : Pol → Pol
  | [] => if t.1 = 0 then [] else [t]
  | u :: r => if cmpE t.2 u.2 = 1 then (if t.1 = 0 then u :: r else t :: u :: r) else if t.2 = u.2 then (if t.1 + u.1 = 0 then r else (t.1 + u.1, t.2) :: r) else u :: insT t r
def nrm : Pol → Pol
  | [] => []
  | t :: r => insT t (nrm r)
theorem insT_cf (t : Term1) : ∀ (r : Pol) (e : List Nat), cf (insT t r) e = (if t.2 = e then t.1 else 0) + cf r e
  | [], e => by
    simp only [insT]
    split
    · rename_i h; simp [cf, h]
    · rfl
  | u :: r, e => by
    have ih := insT_cf t r e
    simp only [insT]
    split
    · split
      · rename_i h; simp [h]
      · rfl
    · split
      · rename_i h
        split
        · rename_i h0
          simp only [cf]; rw [← h]
          split <;> omega
        · simp only [cf]; rw [← h]
          split <;> omega
      · simp only [cf, ih]; omega
theorem insT_mem {t u : Term1} : ∀ {r : Pol}, u ∈ insT t r → u.2 = t.2 ∨ ∃ s ∈ r, s.2 = u.2
  | [], h => by
    simp only [insT] at h
    split at h
    · simp at h
    · simp at h; left; rw [h]
  | s :: r, h => by
    simp only [insT] at h
    split at h
    · split at h
      · exact .inr ⟨u, h, rfl⟩
      · rcases List.mem_cons.1 h with h | h
        · left; rw [h]
        · exact .inr ⟨u, h, rfl⟩
    · split at h
      · split at h
        · exact .inr ⟨u, List.mem_cons_of_mem _ h, rfl⟩
        · rcases List.mem_cons.1 h with h | h
          · left; rw [h]
          · exact .inr ⟨u, List.mem_cons_of_mem _ h, rfl⟩
      · rcases List.mem_cons.1 h with h | h
        · exact .inr ⟨s, by simp, by rw [h]⟩
        · rcases insT_mem h with h | ⟨v, hv, he⟩
          · exact .inl h
          · exact .inr ⟨v, List.mem_cons_of_mem _ hv, he⟩
theorem insT_canon {t : Term1} (ht : t.2.length = 4) : ∀ {r : Pol}, Canon r → Canon (insT t r)
  | [], _ => by
    simp only [insT]
    split
    · exact Canon.nil
    · rename_i h
      exact ⟨List.pairwise_singleton _ _, by simpa using h, fun s hs => by rw [List.mem_singleton.1 hs]; exact ht⟩
  | u :: r, hc => by
    have h4 := hc.l4 u (by simp)
    simp only [insT]
    split
    · rename_i hgt
      split
      · exact hc
      · rename_i h0
        refine ⟨List.pairwise_cons.2 ⟨fun s hs => ?_, hc.desc⟩, fun s hs => ?_, fun s hs => ?_⟩
        · rcases List.mem_cons.1 hs with rfl | hs
          · exact hgt
          · have h1 := hc.head_desc s hs
            exact cmpE_trans1 (by omega) (by rw [h4, hc.l4 s (by simp [hs])]) hgt (by omega)
        · rcases List.mem_cons.1 hs with rfl | hs
          · exact h0
          · exact hc.nz s hs
        · rcases List.mem_cons.1 hs with rfl | hs
          · exact ht
          · exact hc.l4 s hs
    · rename_i hgt
      split
      · rename_i he
        split
        · exact hc.tail
        · rename_i h0
          refine ⟨List.pairwise_cons.2 ⟨fun s hs => ?_, hc.tail.desc⟩, fun s hs => ?_, fun s hs => ?_⟩
          · show cmpE t.2 s.2 = 1
            rw [he]; exact hc.head_desc s hs
          · rcases List.mem_cons.1 hs with rfl | hs
            · exact h0
            · exact hc.tail.nz s hs
          · rcases List.mem_cons.1 hs with rfl | hs
            · exact ht
            · exact hc.tail.l4 s hs
      · rename_i hne
        have ih := insT_canon ht hc.tail
        have hlt : cmpE u.2 t.2 = 1 := by
          have h1 := cmpE_swap t.2 u.2
          have h2 := cmpE_val t.2 u.2
          have h3 : cmpE t.2 u.2 ≠ 0 := fun h => hne ((cmpE_zero (by omega)).1 h)
          omega
        refine ⟨List.pairwise_cons.2 ⟨fun s hs => ?_, ih.desc⟩, fun s hs => ?_, fun s hs => ?_⟩
        · rcases insT_mem hs with h | ⟨v, hv, he⟩
          · rw [h]; exact hlt
          · rw [← he]; exact hc.head_desc v hv
        · rcases List.mem_cons.1 hs with rfl | hs
          · exact hc.nz _ (by simp)
          · exact ih.nz s hs
        · rcases List.mem_cons.1 hs with rfl | hs
          · exact h4
          · exact ih.l4 s hs
theorem nrm_canon : ∀ {p : Pol}, L4 p → Canon (nrm p)
  | [], _ => Canon.nil
  | t :: r, h => insT_canon (h t (by simp)) (nrm_canon fun s hs => h s (by simp [hs]))
theorem nrm_eqv : ∀ (p : Pol), Eqv (nrm p) p
  | [] => Eqv.rfl
  | t :: r => fun e => by
    show cf (insT t (nrm r)) e = _
    rw [insT_cf, nrm_eqv r e]; rfl
theorem nrm_eq {q p : Pol} (hq : Canon q) (hp : L4 p) (h : Eqv q p) : q = nrm p := canon_unique hq (nrm_canon hp) fun e _ => by rw [h, nrm_eqv]
theorem nrm_congr {p q : Pol} (hp : L4 p) (hq : L4 q) (h : Eqv p q) : nrm p = nrm q := nrm_eq (nrm_canon hp) hq ((nrm_eqv p).trans h)
theorem nrm_self {p : Pol} (hp : Canon p) : nrm p = p := (nrm_eq hp hp.l4 Eqv.rfl).symm
theorem insT_norm (t : Term1) : ∀ (r : Pol), norm1 (insT t r) ≤ t.1.natAbs + norm1 r ∧ (insT t r).length ≤ r.length + 1
  | [] => by
    simp only [insT]
    split <;> simp [norm1]
  | u :: r => by
    have ih := insT_norm t r
    simp only [insT]
    split
    · split <;> simp [norm1] <;> omega
    · split
      · split
        · simp [norm1]; omega
        · simp [norm1]; omega
      · simp [norm1]; omega
theorem nrm_norm : ∀ (p : Pol), norm1 (nrm p) ≤ norm1 p ∧ (nrm p).length ≤ p.length
  | [] => ⟨Nat.le_refl _, Nat.le_refl _⟩
  | t :: r => by
    have ih := nrm_norm r
    have h := insT_norm t (nrm r)
    show norm1 (insT t (nrm r)) ≤ t.1.natAbs + norm1 r ∧ (insT t (nrm r)).length ≤ r.length + 1
    omega
theorem nrm_expB {p : Pol} (hp : L4 p) {B : Nat} (h : ExpB p B) : ExpB (nrm p) B := (nrm_canon hp).expB (nrm_eqv p) h
theorem norm1_pmul (f g : Pol) : norm1 (pmulP f g) = norm1 f * norm1 g := by
  induction f with
  | nil => simp [pmulP, norm1]
  | cons s r ih =>
    simp only [pmulP, norm1_append, ih, norm1_times, norm1, Nat.add_mul]
    rw [Nat.mul_comm (norm1 g)]
theorem len_pmul (f g : Pol) : (pmulP f g).length = f.length * g.length := by
  induction f with
  | nil => simp [pmulP]
  | cons s r ih => simp only [pmulP, List.length_append, List.length_map, ih, List.length_cons, Nat.add_mul]; omega
theorem len_neg (f : Pol) : (negP f).length = f.length := by simp [negP]
theorem ExpB.append {f g : Pol} {B : Nat} (hf : ExpB f B) (hg : ExpB g B) : ExpB (f ++ g) B := fun t ht => (List.mem_append.1 ht).elim (hf t) (hg t)
theorem ExpB.neg {f : Pol} {B : Nat} (hf : ExpB f B) : ExpB (negP f) B := fun t ht => by
  obtain ⟨u, hu, rfl⟩ := List.mem_map.1 ht
  exact hf u hu
theorem ExpB.mono {f : Pol} {B B' : Nat} (hf : ExpB f B) (h : B ≤ B') : ExpB f B' := fun t ht x hx => Nat.le_trans (hf t ht x hx) h
end Go.Vc
