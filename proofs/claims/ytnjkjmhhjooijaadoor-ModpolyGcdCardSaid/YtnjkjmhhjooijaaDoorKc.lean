/- The contracts over the ring of polynomials modulo p; the extended algorithm. -/
import Derived.Test.YtnjkjmhhjooijaaDoorLsq
import Derived.Test.YtnjkjmhhjooijaaDoorRd
namespace Go.Vc
namespace Fx
variable {p : Nat} [hp : Pr p]
abbrev At (h : Heap) (v : Value) (a : Fx p) : Prop := Nums .u32 h v a.l
theorem mulX (h : Heap) (v w : Value) (a b : Fx p) (ha : At h v a) (hb : At h w b) (la : a.n < 1000000) (lb : b.n < 1000000) :
    Spec E.P f_modpoly_Mul #[v, w, vnum .u32 p] h (fun v' h' => Ext h h' ∧ At h' v' (a * b)) := modMulM h v w a.l b.l p ha hb a.can b.can hp.fld la lb
theorem subX (h : Heap) (v w : Value) (a b : Fx p) (ha : At h v a) (hb : At h w b) (la : a.n < 1000000) (lb : b.n < 1000000) :
    Spec E.P f_modpoly_Sub #[v, w, vnum .u32 p] h (fun v' h' => Ext h h' ∧ At h' v' (a - b)) := modSubM h v w a.l b.l p ha hb a.can b.can hp.fld la lb
theorem addX (h : Heap) (v w : Value) (a b : Fx p) (ha : At h v a) (hb : At h w b) (la : a.n < 1000000) (lb : b.n < 1000000) :
    Spec E.P f_modpoly_Add #[v, w, vnum .u32 p] h (fun v' h' => Ext h h' ∧ At h' v' (a + b)) := modAddM h v w a.l b.l p ha hb a.can b.can hp.fld la lb
theorem divX (h : Heap) (v w : Value) (a b : Fx p) (ha : At h v a) (hb : At h w b) (hb0 : b ≠ 0) (la : a.n < 1000000) (lb : b.n < 1000000) :
    Spec E.P f_modpoly_divide #[v, w, vnum .u32 p] h (fun v' h' => Ext h h' ∧ ∃ q r, v' = .tuple #[q, r] ∧ At h' q (quo a b) ∧ At h' r (rem a b)) := by
  refine (moddivide_any h v w a.l b.l p ha hb a.can b.can hp.fld (l_ne hb0) la lb).mono ?_
  rintro v' h' ⟨hx, q, r, e, hq, hr⟩
  refine ⟨hx, q, r, e, ?_, ?_⟩
  · show Nums .u32 h' q (quo a b).l
    rw [quo_l hb0]; exact hq
  · show Nums .u32 h' r (rem a b).l
    rw [rem_l hb0]; exact hr
theorem remX (h : Heap) (v w : Value) (a b : Fx p) (ha : At h v a) (hb : At h w b) (hb0 : b ≠ 0) (la : a.n < 1000000) (lb : b.n < 1000000) :
    Spec E.P f_modpoly_remainder #[v, w, vnum .u32 p] h (fun v' h' => Ext h h' ∧ At h' v' (rem a b)) := by
  refine (modremainder_any h v w a.l b.l p ha hb a.can b.can hp.fld (l_ne hb0) la lb).mono ?_
  rintro v' h' ⟨hx, hr⟩
  refine ⟨hx, ?_⟩
  show Nums .u32 h' v' (rem a b).l
  rw [rem_l hb0]; exact hr
theorem gcdX (h : Heap) (v w : Value) (a b : Fx p) (ha : At h v a) (hb : At h w b) (la : a.n < 1000000) (lb : b.n < 1000000) :
    Spec E.P f_modpoly_gcd #[v, w, vnum .u32 p] h (fun v' h' => Ext h h' ∧ At h' v' (gcd a b)) := modgcd_any h v w a.l b.l p ha hb a.can b.can hp.fld la lb
theorem scaleX (h : Heap) (v : Value) (a : Fx p) (c : Nat) (ha : At h v a) (hc : c < 4294967296) (la : a.n < 1000000) :
    Spec E.P f_modpoly_Scale #[v, vnum .u32 c, vnum .u32 p] h (fun v' h' => Ext h h' ∧ At h' v' (scale a c)) := modScaleM h v a.l c p ha a.can hp.fld hc la

theorem n_quo {a b : Fx p} (hb : b ≠ 0) : (quo a b).n ≤ a.n - (b.n - 1) := by
  have := (divM_sem hp.fld a.can b.can (l_ne hb)).ql
  unfold n
  rw [quo_l hb]; exact this
theorem n_mul_le (a b : Fx p) : (a * b).n ≤ a.n + b.n := cnf_len _ _ _
/-- the inverse of the leading coefficient -/
theorem inverseX (h : Heap) (a : Fx p) (ha : a ≠ 0) : Spec E.P f_modular_Inverse #[vnum .u32 (co a.l (a.l.length - 1)), vnum .u32 p] h (fun v' h' => h' = h ∧ v' = .tuple #[vnum .u32 (invM (lead a) p), .int .i64 0]) := by
  have hpl := hp.fld.lt
  have hinv := hp.fld.invM (lead_ne ha)
  have := a.can.co_lt Pr.pos (a.l.length - 1)
  refine (modInverse_any h (lead a) p (by unfold lead n; omega) hp.fld.two hpl ⟨_, hinv.1⟩).mono ?_
  rintro _ h' ⟨rfl, rfl⟩
  exact ⟨rfl, rfl⟩
/-- one step of the algorithm -/
theorem cof_step {F G f g u x : Fx p} (hg : g ≠ 0) (h1 : G ∣ u * F - f) (h2 : G ∣ x * F - g) : G ∣ (u - quo f g * x) * F - rem f g := by
  have e := (quo_rem f hg).1
  have h3 := Cr.dvd_sub h1 (Cr.dvd_mul_left (quo f g) h2)
  have e2 : u * F - (quo f g * g + rem f g) - quo f g * (x * F - g) = (u - quo f g * x) * F - rem f g := Cr.id6 u F (quo f g) g (rem f g) x (fun u F q g r x => u * F - (q * g + r) - q * (x * F - g)) (fun u F q _ r x => (u - q * x) * F - r) rfl
  rw [← e] at e2
  rwa [e2] at h3

set_option maxHeartbeats 1600000 in
theorem cofactor_any (h : Heap) (v w : Value) (F G : Fx p) (hF : At h v F) (hG : At h w G) (h0 : ¬ (F = 0 ∧ G = 0)) (lF : F.n ≤ 50) (lG : G.n ≤ 50) :
    Spec E.P f_modpoly_cofactor #[v, w, vnum .u32 p] h (fun v' h' => Ext h h' ∧ ∃ u : Fx p, At h' v' u ∧ G ∣ u * F - gcd F G ∧ u.n ≤ 3000) := by
  refine Spec.intro hE (args := [_, _, _]) F_modpoly_cofactor rfl rfl (Nat.le_of_ble_eq_true rfl) ?_
  refine ⟨⟨rfl, by decide, rfl, rfl, trivial⟩, ?_⟩
  refine DNew.intro ?_
  intro ob h1 hob hx1 hs1 hg1
  have hone : At h1 (.slice (some ⟨ob, 0, none⟩) 1 1) (1 : Fx p) := Whole.nums (e := t_uint32) hg1 rfl
  refine DLoop.intro hE (ι := Value × Value × Value × Value × Fx p × Fx p × Fx p × Fx p) (fun s => [(0, s.1), (1, s.2.1), (7, s.2.2.1), (8, s.2.2.2.1), (2, vnum .u32 p)])
    (fun s h' => Ext h h' ∧ At h' s.1 s.2.2.2.2.1 ∧ At h' s.2.1 s.2.2.2.2.2.1 ∧ At h' s.2.2.1 s.2.2.2.2.2.2.1 ∧ At h' s.2.2.2.1 s.2.2.2.2.2.2.2 ∧ gcd s.2.2.2.2.1 s.2.2.2.2.2.1 = gcd F G ∧ G ∣ s.2.2.2.2.2.2.1 * F - s.2.2.2.2.1 ∧ G ∣ s.2.2.2.2.2.2.2 * F - s.2.2.2.2.2.1 ∧
      s.2.2.2.2.1.n ≤ 50 ∧ s.2.2.2.2.2.1.n ≤ 50 ∧ s.2.2.2.2.2.2.1.n ≤ 1 + 50 * (50 - s.2.2.2.2.2.1.n) ∧ s.2.2.2.2.2.2.2.n ≤ 1 + 50 * (50 - s.2.2.2.2.2.1.n)) (fun s => s.2.2.2.2.2.1.n)
    (v, w, _, .slice none 0 0, F, G, 1, 0) rfl ⟨rfl, rfl, rfl, rfl, rfl, trivial⟩ ⟨hx1, hF.ext hx1, hG.ext hx1, hone, Nums.nil _ _, rfl, ?_, ?_, lF, lG, ?_, ?_⟩ ?_
  · show G ∣ 1 * F - F
    rw [Cr.one_mul, Cr.sub_self]; exact Cr.dvd_zero G
  · show G ∣ 0 * F - G
    rw [Cr.zero_mul, Cr.sub_eq, Cr.zero_add]; exact Cr.dvd_neg (Cr.dvd_refl G)
  · show (1 : Fx p).n ≤ _
    rw [n_one]; omega
  · show (0 : Fx p).n ≤ _
    rw [n_zero.2 rfl]; omega
  rintro ⟨fv, gv, uv, xv, f, g, u, x⟩ h2 ⟨hx2, hf, hg, hu, hxx, hgcd, d1, d2, lf, lg, lu, lx⟩
  dsimp only at hf hg hu hxx hgcd d1 d2 lf lg lu lx ⊢
  have hg0 := hg
  have hf0 := hf
  obtain ⟨ga, gcap, rfl, -⟩ := hg
  refine bsp.dec (p := (g.l.length : Int) > 0) (fun hgt => ?_) (fun hle => ?_)
  · have hgn : g ≠ 0 := fun e => by
      have h0 : (0 : Fx p).l.length = 0 := rfl
      rw [e, h0] at hgt
      omega
    refine (divX h2 fv _ f g hf0 hg0 hgn (by omega) (by omega)).mono ?_
    rintro _ h3 ⟨hx3, qv, rv, rfl, hq, hr⟩
    have lq := n_quo (a := f) hgn
    have lr := (quo_rem f hgn).2
    refine (mulX h3 qv xv _ x hq (hxx.ext hx3) (by omega) (by omega)).mono ?_
    rintro mv h4 ⟨hx4, hm⟩
    have lm := n_mul_le (quo f g) x
    refine (subX h4 uv mv u _ (hu.ext (hx3.trans hx4)) hm (by omega) (by omega)).mono ?_
    rintro sv h5 ⟨hx5, hs⟩
    have ls := n_sub u (quo f g * x)
    refine ⟨(_, rv, xv, sv, g, rem f g, x, u - quo f g * x), ⟨rfl, rfl, rfl, rfl, rfl, trivial⟩, ⟨hx2.trans (hx3.trans (hx4.trans hx5)), hg0.ext (hx3.trans (hx4.trans hx5)), hr.ext (hx4.trans hx5), hxx.ext (hx3.trans (hx4.trans hx5)), hs, ?_, d2, cof_step hgn d1 d2, lg, by dsimp only; omega, by dsimp only; omega, by dsimp only; omega⟩, lr⟩
    dsimp only
    rw [← gcd_step f hgn]; exact hgcd
  · have hgn : g = 0 := Fx.ext (List.eq_nil_of_length_eq_zero (by omega))
    subst hgn
    have hfn : f ≠ 0 := fun e => by
      rw [e, gcd_zero, monic_zero] at hgcd
      exact gcd_ne h0 hgcd.symm
    rw [gcd_zero] at hgcd
    have hfe : f.n = f.l.length := rfl
    have hfl : f.l.length ≠ 0 := fun e => hfn (n_zero.1 e)
    obtain ⟨fa, fcap, rfl, -⟩ := hf
    obtain ⟨b, off, rfl, hcell⟩ := hf0.at (i := f.l.length - 1) (by omega)
    refine DWrap.is ((f.l.length - 1 : Nat) : Int) (by omega) (by omega) ?_
    refine DIdx.intro (f.l.length - 1) rfl rfl (by omega) ?_
    refine DLoad.scalar hcell ?_
    refine (inverseX h2 f hfn).mono ?_
    rintro _ h3 ⟨rfl, rfl⟩
    have hinv := (hp.fld.invM (lead_ne hfn)).2
    have hpl := hp.fld.lt
    refine (scaleX h3 uv u _ hu (by omega) (by omega)).mono ?_
    rintro zv h4 ⟨hx4, hz⟩
    refine ⟨hx2.trans hx4, scale u (invM (lead f) p), hz, ?_, ?_⟩
    · rw [← hgcd, monic_eq hfn, scale_eq]
      have e : C (invM (lead f) p) * u * F - C (invM (lead f) p) * f = C (invM (lead f) p) * (u * F - f) := Cr.id4 (C (invM (lead f) p)) u F f (fun c u F f => c * u * F - c * f) (fun c u F f => c * (u * F - f)) rfl
      rw [e]
      exact Cr.dvd_mul_left _ d1
    · have : (scale u (invM (lead f) p)).n ≤ u.n := cnf_len _ _ _
      omega
end Fx
end Go.Vc
