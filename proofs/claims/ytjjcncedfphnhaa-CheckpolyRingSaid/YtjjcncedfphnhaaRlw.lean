/- The law of the reducta, in plain terms; Reducta, Coef, Level. -/
import Derived.Test.YtjjcncedfphnhaaRda
import Derived.Test.YtjjcncedfphnhaaSum
namespace Go.Vc
open Go.Proofs

theorem Canon.filter {f : Pol} (h : Canon f) (P : Term1 → Bool) : Canon (f.filter P) := ⟨h.desc.sublist List.filter_sublist, fun t ht => h.nz t (List.mem_filter.1 ht).1, fun t ht => h.l4 t (List.mem_filter.1 ht).1⟩
theorem norm1_filter' (f : Pol) (P : Term1 → Bool) : norm1 (f.filter P) ≤ norm1 f := by
  induction f with
  | nil => exact Nat.le_refl _
  | cons t r ih =>
    by_cases h : P t = true
    · rw [List.filter_cons_of_pos h]; simp only [norm1]; omega
    · rw [List.filter_cons_of_neg h]; simp only [norm1]; omega
theorem cf_partition (f : Pol) (v d : Nat) (e : List Nat) : cf f e = cf (f.filter fun t => decide (t.2.getD v 0 = d)) e + cf (delP f v d) e := by
  unfold delP
  induction f with
  | nil => rfl
  | cons t r ih =>
    by_cases h : t.2.getD v 0 = d
    · rw [List.filter_cons_of_pos (by simpa using h), List.filter_cons_of_neg (by simpa using h)]
      simp only [cf]; omega
    · rw [List.filter_cons_of_neg (by simpa using h), List.filter_cons_of_pos (by simpa using h)]
      simp only [cf]; omega

/-- the leading terms with the exponent k in the place of d -/
def leadP (f : Pol) (v d k : Nat) : Pol := (f.filter fun t => decide (t.2.getD v 0 = d)).map fun t => (t.1, t.2.set v k)
theorem leadP_zero (f : Pol) (v d : Nat) : leadP f v d 0 = coefP f v d := rfl
theorem leadP_end (f : Pol) (v d : Nat) (hv : v < 4) (hL : L4 f) : leadP f v d d = f.filter fun t => decide (t.2.getD v 0 = d) := by
  unfold leadP
  conv => rhs; rw [← List.map_id (f.filter fun t => decide (t.2.getD v 0 = d))]
  refine List.map_congr_left fun t ht => ?_
  obtain ⟨h1, h2⟩ := List.mem_filter.1 ht
  have h3 : t.2.getD v 0 = d := by simpa using h2
  have hl : v < t.2.length := by rw [hL t h1]; exact hv
  rw [getD_lt hl] at h3
  refine Prod.ext rfl ?_
  show t.2.set v d = t.2
  rw [← h3]; exact List.set_getElem_self hl

theorem cmpL_set : ∀ (a b : List Nat) (i k : Nat), i < a.length → a.length = b.length → a[i]? = b[i]? → cmpL (a.set i k) (b.set i k) = cmpL a b
  | x :: xs, y :: ys, 0, k, _, _, h => by
    have h' : x = y := by simpa using h
    subst h'
    simp [List.set_cons_zero, cmpL]
  | x :: xs, y :: ys, i + 1, k, h1, h2, h => by
    have ih := cmpL_set xs ys i k (by simpa using h1) (by simpa using h2) (by simpa using h)
    simp only [List.set_cons_succ, cmpL, ih]
theorem cmpE_set {a b : List Nat} {v k : Nat} (ha : a.length = 4) (hb : b.length = 4) (hv : v < 4) (h : a.getD v 0 = b.getD v 0) : cmpE (a.set v k) (b.set v k) = cmpE a b := by
  obtain ⟨a0, a1, a2, a3, rfl⟩ := four ha
  obtain ⟨b0, b1, b2, b3, rfl⟩ := four hb
  match v, hv with
  | 0, _ => exact cmpL_set [a3, a2, a1, a0] [b3, b2, b1, b0] 3 k (by simp) rfl (by simpa using h)
  | 1, _ => exact cmpL_set [a3, a2, a1, a0] [b3, b2, b1, b0] 2 k (by simp) rfl (by simpa using h)
  | 2, _ => exact cmpL_set [a3, a2, a1, a0] [b3, b2, b1, b0] 1 k (by simp) rfl (by simpa using h)
  | 3, _ => exact cmpL_set [a3, a2, a1, a0] [b3, b2, b1, b0] 0 k (by simp) rfl (by simpa using h)

theorem leadP_canon {f : Pol} (hf : Canon f) (v d k : Nat) (hv : v < 4) : Canon (leadP f v d k) := by
  have hF := hf.filter fun t => decide (t.2.getD v 0 = d)
  refine ⟨?_, ?_, ?_⟩
  · unfold leadP
    rw [List.pairwise_map]
    exact hF.desc.imp_of_mem fun {s u} hs hu h => by
      have h1 : s.2.getD v 0 = d := by simpa using (List.mem_filter.1 hs).2
      have h2 : u.2.getD v 0 = d := by simpa using (List.mem_filter.1 hu).2
      show cmpE (s.2.set v k) (u.2.set v k) = 1
      rw [cmpE_set (hF.l4 s hs) (hF.l4 u hu) hv (by rw [h1, h2])]; exact h
  · intro u hu
    obtain ⟨s, hs, rfl⟩ := List.mem_map.1 hu
    exact hF.nz s hs
  · intro u hu
    obtain ⟨s, hs, rfl⟩ := List.mem_map.1 hu
    show (s.2.set v k).length = 4
    simpa using hF.l4 s hs
theorem leadP_norm (f : Pol) (v d k : Nat) : norm1 (leadP f v d k) ≤ norm1 f ∧ (leadP f v d k).length ≤ f.length := by
  unfold leadP
  refine ⟨?_, by rw [List.length_map]; exact List.length_filter_le _ _⟩
  have h1 : ∀ l : Pol, norm1 (l.map fun t => (t.1, t.2.set v k)) = norm1 l := fun l => by
    induction l with
    | nil => rfl
    | cons t r ih => simp only [List.map_cons, norm1, ih]
  rw [h1]; exact norm1_filter' f _
theorem leadP_expB {f : Pol} {B : Nat} (hf : ExpB f B) (v d k : Nat) (hk : k ≤ B) : ExpB (leadP f v d k) B := fun t ht x hx => by
  obtain ⟨s, hs, rfl⟩ := List.mem_map.1 ht
  rcases List.mem_or_eq_of_mem_set hx with h | h
  · exact hf s (List.mem_filter.1 hs).1 x h
  · omega

theorem unit_mul {e : List Nat} {v k : Nat} (he : e.length = 4) (hv : v < 4) : addE (unitE v) (e.set v k) = e.set v (k + 1) := by
  obtain ⟨a0, a1, a2, a3, rfl⟩ := four he
  match v, hv with
  | 0, _ => simp [unitE, addE]; omega
  | 1, _ => simp [unitE, addE]; omega
  | 2, _ => simp [unitE, addE]; omega
  | 3, _ => simp [unitE, addE]; omega
theorem pmul_var (l : Pol) (x : Term1) : pmulP l [x] = l.map fun s => tmul x s := by
  induction l with
  | nil => rfl
  | cons s r ih => simp only [pmulP, ih, List.map_cons, List.map_nil, List.singleton_append]
theorem leadP_next {f : Pol} (hL : L4 f) (v d k : Nat) (hv : v < 4) : pmulP (leadP f v d k) [(1, unitE v)] = leadP f v d (k + 1) := by
  rw [pmul_var]
  unfold leadP
  rw [List.map_map]
  refine List.map_congr_left fun t ht => ?_
  show ((1 : Int) * t.1, addE (unitE v) (t.2.set v k)) = (t.1, t.2.set v (k + 1))
  rw [Int.one_mul, unit_mul (hL t (List.mem_filter.1 ht).1) hv]

theorem degP_le {f : Pol} {v B : Nat} (h : ExpB f B) : degP f v ≤ B := by
  induction f with
  | nil => simp [degP]
  | cons t r ih =>
    have h1 := ih fun s hs => h s (List.mem_cons_of_mem _ hs)
    have h2 : t.2.getD v 0 ≤ B := by
      by_cases hv : v < t.2.length
      · rw [getD_lt hv]; exact h t List.mem_cons_self _ (List.getElem_mem _)
      · rw [List.getD_eq_getElem?_getD, List.getElem?_eq_none (by omega)]; simp
    simp only [degP]; omega

/-- what all reducta are -/
theorem redL_all (v B : Nat) : ∀ (n : Nat) (f : Pol), Canon f → ExpB f B → ∀ g ∈ redL v n f, Canon g ∧ norm1 g ≤ norm1 f ∧ g.length ≤ f.length
  | 0, _, _, _, g, hg => (List.not_mem_nil hg).elim
  | n + 1, f, hf, hB, g, hg => by
    have hg' : g ∈ (if degP f v < 1 then [] else f :: (if levelP (coefP f v (degP f v)) = 0 then [] else redL v n (delP f v (degP f v)))) := hg
    split at hg'
    · exact (List.not_mem_nil hg').elim
    · rcases List.mem_cons.1 hg' with rfl | hg'
      · exact ⟨hf, Nat.le_refl _, Nat.le_refl _⟩
      · split at hg'
        · exact (List.not_mem_nil hg').elim
        · obtain ⟨h1, h2, h3⟩ := redL_all v B n _ (hf.filter _) (fun t ht => hB t (List.mem_filter.1 ht).1) g hg'
          have h4 := norm1_filter' f fun t => decide (t.2.getD v 0 ≠ degP f v)
          have h5 := List.length_filter_le (fun t : Term1 => decide (t.2.getD v 0 ≠ degP f v)) f
          exact ⟨h1, by omega, by omega⟩
theorem redL_len (v : Nat) : ∀ (n : Nat) (f : Pol), (redL v n f).length ≤ n
  | 0, _ => Nat.le_refl _
  | n + 1, f => by
    show (if degP f v < 1 then [] else f :: (if levelP (coefP f v (degP f v)) = 0 then [] else redL v n (delP f v (degP f v)))).length ≤ n + 1
    have := redL_len v n (delP f v (degP f v))
    split
    · simp
    · split
      · simp
      · simp only [List.length_cons]; omega

theorem Degree_any (h : Heap) (w : Value) (p f : Pol) (v : Nat) (hv : v < 4) (hp : PolyAt h w p) (hlen : p.length < 20) (hb : norm1 p < big) (hf : Canon f) (hfp : ∀ e, cf f e = cf p e) :
    Spec E.P f_checkpoly_Degree #[w, .int .i64 ((v : Int) + 1)] h (fun v' h' => Ext h h' ∧ v' = .int .i64 (if f = [] then -1 else (degP f v : Int))) := by
  refine Spec.intro hE (args := [_, _]) F_checkpoly_Degree rfl rfl (Nat.le_of_ble_eq_true rfl) ?_
  refine (Normal_any h w p hp hlen hb).mono ?_
  rintro w1 h1 ⟨hx1, f', hf', hcf, hef, hnf, hlf⟩
  obtain rfl : f' = f := canon_unique hcf hf fun e _ => by rw [hef, hfp]
  refine (degree_any h1 w1 f' v hv hf' (by omega)).mono ?_
  rintro _ h2 ⟨hx2, rfl⟩
  exact ⟨hx1.trans hx2, rfl⟩

theorem Coef_any (h : Heap) (w : Value) (p f : Pol) (v : Nat) (k : Int) (hv : v < 4) (hk : 0 ≤ k) (hp : PolyAt h w p) (hlen : p.length < 20) (hb : norm1 p < big) (hf : Canon f) (hfp : ∀ e, cf f e = cf p e) :
    Spec E.P f_checkpoly_Coef #[w, .int .i64 ((v : Int) + 1), .int .i64 k] h (fun v' h' => Ext h h' ∧ PolyAt h' v' (coefP f v k.toNat)) := by
  refine Spec.intro hE (args := [_, _, _]) F_checkpoly_Coef rfl rfl (Nat.le_of_ble_eq_true rfl) ?_
  refine bsp.dec (p := (v : Int) + 1 > 4) (fun hbad => ?_) (fun _ => ?_)
  · exfalso; omega
  refine bsp.dec (p := k < 0) (fun hbad => ?_) (fun _ => ?_)
  · exfalso; omega
  refine (Normal_any h w p hp hlen hb).mono ?_
  rintro w1 h1 ⟨hx1, f', hf', hcf, hef, hnf, hlf⟩
  obtain rfl : f' = f := canon_unique hcf hf fun e _ => by rw [hef, hfp]
  refine (coef_any h1 w1 f' v k hv hk hf' (by omega)).mono ?_
  rintro w2 h2 ⟨hx2, h3⟩
  exact ⟨hx1.trans hx2, h3⟩

theorem Level_any (h : Heap) (w : Value) (p f : Pol) (hp : PolyAt h w p) (hlen : p.length < 20) (hb : norm1 p < big) (hf : Canon f) (hfp : ∀ e, cf f e = cf p e) :
    Spec E.P f_checkpoly_Level #[w] h (fun v' h' => Ext h h' ∧ v' = .int .i64 (levelP f : Nat)) := by
  refine Spec.intro hE (args := [_]) F_checkpoly_Level rfl rfl (Nat.le_of_ble_eq_true rfl) ?_
  refine (Normal_any h w p hp hlen hb).mono ?_
  rintro w1 h1 ⟨hx1, f', hf', hcf, hef, hnf, hlf⟩
  obtain rfl : f' = f := canon_unique hcf hf fun e _ => by rw [hef, hfp]
  refine (level_any h1 w1 f' hf').mono ?_
  rintro _ h2 ⟨rfl, rfl⟩
  exact ⟨hx1, rfl⟩

theorem Reducta_any (h : Heap) (w : Value) (p f : Pol) (v : Nat) (hv : v < 4) (hp : PolyAt h w p) (hlen : p.length < 20) (hb : norm1 p < big) (hf : Canon f) (hfp : ∀ e, cf f e = cf p e) (B : Nat) (hB : ExpB f B) :
    Spec E.P f_checkpoly_Reducta #[w, .int .i64 ((v : Int) + 1)] h (fun v' h' => Ext h h' ∧ PolysAt h' v' (redL v (f.length + 1) f)) := by
  refine Spec.intro hE (args := [_, _]) F_checkpoly_Reducta rfl rfl (Nat.le_of_ble_eq_true rfl) ?_
  refine (Normal_any h w p hp hlen hb).mono ?_
  rintro w1 h1 ⟨hx1, f', hf', hcf, hef, hnf, hlf⟩
  obtain rfl : f' = f := canon_unique hcf hf fun e _ => by rw [hef, hfp]
  refine (reducta_any h1 w1 f' v hv hf' (by omega)).mono ?_
  rintro w2 h2 ⟨hx2, hl⟩
  have hall := redL_all v B (f'.length + 1) f' hf hB
  have hll := redL_len v (f'.length + 1) f'
  generalize redL v (f'.length + 1) f' = l at *
  obtain ⟨a, cap, rfl, hcap, hlA⟩ := hl
  refine DLoop.intro hE (ι := Nat × Value) (fun s => [(13, .int .i64 s.1), (11, .slice a l.length cap), (12, .int .i64 l.length), (5, s.2)])
    (fun s h' => Ext h2 h' ∧ s.1 ≤ l.length ∧ OwnPs h' h2.size s.2 (l.take s.1)) (fun s => l.length - s.1) (0, .slice none 0 0) rfl ⟨rfl, rfl, rfl, rfl, trivial⟩ ⟨Ext.rfl, Nat.zero_le _, OwnPs.nil _ _⟩ ?_
  rintro ⟨i, rv⟩ h3 ⟨hx3, hi, ho⟩
  dsimp only at hi ho ⊢
  refine bsp.dec (fun hlt => ?_) (fun hlt => ?_)
  · have hil : i < l.length := by omega
    obtain ⟨b, off, rfl, hc⟩ := hlA (by intro e; subst e; simp at hil)
    obtain ⟨u, hcell, hu⟩ := hc i l[i] (by simp)
    obtain ⟨hgc, hgn, hgl⟩ := hall l[i] (List.getElem_mem hil)
    refine DIdx.intro i rfl rfl hil ?_
    refine DLoad.scalar (hx3.cell hcell) ?_
    refine (Normal_any h3 u l[i] (hu.ext hx3) (by omega) (by omega)).mono ?_
    rintro w4 h4 ⟨hx4, g, hg, hcg, heg, -, -⟩
    obtain rfl : g = l[i] := canon_unique hcg hgc fun e _ => heg e
    have hg0 := hg
    obtain ⟨ga, gcap, rfl, -⟩ := hg
    refine ⟨⟨rfl, by decide, rfl, rfl, trivial⟩, ?_⟩
    refine DNew.intro ?_
    intro nb h5 hnb hx5 hs5 hg5
    have ho5 := ho.ext (hx4.trans hx5)
    refine DRun.one (ti := ⟨.slice t_checkpoly_Poly, 1, 24, .slice none 0 0⟩) rfl rfl ho5 hg5 (hg0.ext hx5) (by simp; omega) (hx3.trans (hx4.trans hx5)).size ?_
    intro v6 h6 ho6 hgr6 hkeep
    refine DWrap.is ((i + 1 : Nat) : Int) (by omega) (by omega) ?_
    refine ⟨(i + 1, v6), ⟨rfl, rfl, rfl, rfl, trivial⟩, ⟨?_, by dsimp only; omega, ?_⟩, by dsimp only; omega⟩
    · exact ((Old.rfl (B := h2.size).ext (hx3.trans (hx4.trans hx5)) (Nat.le_refl _)).grown hgr6 (Nat.le_refl _) fun k hk => (ho5.block hk).1).toExt
    · dsimp only
      rw [List.take_succ_eq_append_getElem hil]; exact ho6
  · obtain rfl : i = l.length := by omega
    rw [List.take_length] at ho
    exact ⟨hx1.trans (hx2.trans hx3), ho.polys⟩
end Go.Vc
