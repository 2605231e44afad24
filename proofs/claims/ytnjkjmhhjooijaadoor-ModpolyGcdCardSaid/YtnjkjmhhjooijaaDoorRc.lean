/- Division with remainder and greatest common divisors modulo a prime. -/
import Derived.Test.YtnjkjmhhjooijaaDoorRb
namespace Go.Vc
namespace Fx
variable {p : Nat} [hp : Pr p]

theorem ser_of_mod {a : Fx p} {c : Nat → Nat} {s : Ser} (h : ∀ i, co a.l i % p = c i % p) (hs : ∀ i, (c i : Int) = s i) : Cg p a.ser s := by
  have : a.ser = fun i => ((c i % p : Nat) : Int) := funext fun i => by
    show (co a.l i : Int) = _
    rw [← h i, a.can.mod Pr.pos]
  rw [this]
  exact cg_mod hs
/-- what division with remainder means -/
theorem quo_rem (a : Fx p) {b : Fx p} (hb : b ≠ 0) : a = quo a b * b + rem a b ∧ (rem a b).n < b.n := by
  have D := divM_sem hp.fld a.can b.can (l_ne hb)
  refine ⟨ext_cg ?_, ?_⟩
  · refine (ser_of_mod D.eq (s := fun i => cv (quo a b).ser b.ser i + (rem a b).ser i) fun i => ?_).trans ((ser_add _ _).trans ((ser_mul _ _).add Cg.rfl)).symm
    rw [Int.natCast_add, conv_cv]
    show _ = cv (fun i => (co (quo a b).l i : Int)) _ i + (co (rem a b).l i : Int)
    rw [quo_l hb, rem_l hb]; rfl
  · show (rem a b).l.length < b.l.length
    rw [rem_l hb]
    exact D.lt
theorem rem_dvd (a : Fx p) {b : Fx p} (hb : b ≠ 0) : b ∣ a - rem a b := by
  obtain ⟨h, -⟩ := quo_rem a hb
  refine ⟨quo a b, ?_⟩
  have e : quo a b * b + rem a b - rem a b = b * quo a b := Cr.id3 (quo a b) b (rem a b) (fun q b r => q * b + r - r) (fun q b _ => b * q) rfl
  rw [← h] at e
  exact e
/-- a remainder is determined by its degree -/
theorem small_dvd {a b : Fx p} (h : b ∣ a) (hn : a.n < b.n) : a = 0 := by
  apply Classical.byContradiction
  intro ha
  have := n_dvd ha h
  omega
theorem rem_unique {a b r : Fx p} (hb : b ≠ 0) (h : b ∣ a - r) (hn : r.n < b.n) : rem a b = r := by
  have h2 := Cr.dvd_sub h (rem_dvd a hb)
  have e : a - r - (a - rem a b) = rem a b - r := Cr.id3 a r (rem a b) (fun a r s => a - r - (a - s)) (fun _ r s => s - r) rfl
  rw [e] at h2
  have := n_sub (rem a b) r
  have := (quo_rem a hb).2
  exact Cr.eq_of_sub (small_dvd h2 (by omega))
theorem rem_self {a b : Fx p} (hn : a.n < b.n) : rem a b = a := by
  have hb : b ≠ 0 := fun h => by rw [h, n_zero.2 rfl] at hn; omega
  exact rem_unique hb (by rw [Cr.sub_self]; exact Cr.dvd_zero b) hn
theorem rem_zero {a b : Fx p} (hb : b ≠ 0) : rem a b = 0 ↔ b ∣ a := by
  constructor
  · intro h
    have := rem_dvd a hb
    rw [h] at this
    have e : a - 0 = a := Cr.id1 a (fun a => a - 0) (fun a => a) rfl
    rwa [e] at this
  · intro h
    refine rem_unique hb ?_ ?_
    · have e : a - 0 = a := Cr.id1 a (fun a => a - 0) (fun a => a) rfl
      rwa [e]
    · rw [n_zero.2 rfl]
      exact Nat.pos_of_ne_zero fun h => hb (n_zero.1 h)
/-- equal remainders -/
theorem rem_eq {a c b : Fx p} (hb : b ≠ 0) : rem a b = rem c b ↔ b ∣ a - c := by
  constructor
  · intro h
    have h1 := rem_dvd a hb
    have h2 := rem_dvd c hb
    rw [h] at h1
    have := Cr.dvd_sub h1 h2
    have e : a - rem c b - (c - rem c b) = a - c := Cr.id3 a c (rem c b) (fun a c r => a - r - (c - r)) (fun a c _ => a - c) rfl
    rwa [e] at this
  · intro h
    refine rem_unique hb ?_ (quo_rem c hb).2
    have := Cr.dvd_add h (rem_dvd c hb)
    have e : a - c + (c - rem c b) = a - rem c b := Cr.id3 a c (rem c b) (fun a c r => a - c + (c - r)) (fun a _ r => a - r) rfl
    rwa [e] at this

/-! ### constants -/
def C (c : Nat) : Fx p := ⟨cnf p 1 fun _ => c, cnf_can Pr.pos⟩
omit hp in
theorem co_C [Pr p] (c i : Nat) : co (C (p := p) c).l i = if i = 0 then c % p else 0 := by
  show co (cnf p 1 fun _ => c) i = _
  rw [co_cnf]
  by_cases h : i = 0
  · rw [if_pos h, if_pos (by omega)]
  · rw [if_neg h, if_neg (by omega)]
def scale (a : Fx p) (c : Nat) : Fx p := ⟨scaleM p a.l c, scaleM_can hp.fld _ _⟩
theorem ser_C (c : Nat) : Cg p (C (p := p) c).ser (fun i => c * one i) := by
  have : (C (p := p) c).ser = fun i => (((if i = 0 then c else 0) % p : Nat) : Int) := funext fun i => by
    show ((co (C c).l i : Nat) : Int) = _
    rw [co_C]
    split
    · rfl
    · rw [Nat.zero_mod]
  rw [this]
  refine cg_mod fun i => ?_
  show _ = (c : Int) * (if i = 0 then 1 else 0)
  split
  · rw [Int.mul_one]
  · rw [Int.mul_zero]; rfl
omit hp in
theorem co_scaleM (f : List Nat) (c i : Nat) : co (scaleM p f c) i = co f i * c % p := by
  unfold scaleM
  rw [co_cnf]
  split
  · rfl
  · rw [co_ge (f := f) (by omega), Nat.zero_mul, Nat.zero_mod]
theorem scale_eq (a : Fx p) (c : Nat) : scale a c = C c * a := ext_cg (by
  have : (scale a c).ser = fun i => ((co a.l i * c % p : Nat) : Int) := funext fun i => congrArg _ (co_scaleM _ _ _)
  rw [this]
  refine (cg_mod (s := fun i => c * a.ser i) fun i => ?_).trans ?_
  · rw [Int.natCast_mul, Int.mul_comm]; rfl
  · refine Cg.trans (Cg.of_eq ?_) (((ser_mul _ _).trans ((ser_C c).mul Cg.rfl)).symm)
    rw [cv_smul, cv_one])
theorem C_mul (a b : Nat) : C (p := p) a * C b = C (a * b) := by
  rw [← scale_eq]
  refine Fx.ext ((scaleM_can hp.fld _ _).ext (cnf_can Pr.pos) fun i => ?_)
  show co (scaleM p (C (p := p) b).l a) i = co (C (p := p) (a * b)).l i
  rw [co_scaleM, co_C, co_C]
  split
  · rw [Nat.mod_mul_mod, Nat.mul_comm]
  · rw [Nat.zero_mul, Nat.zero_mod]
theorem C_mod (a : Nat) : C (p := p) (a % p) = C a := Fx.ext ((C _).can.ext (C _).can fun i => by rw [co_C, co_C, Nat.mod_mod])
theorem C_one : C (p := p) 1 = 1 := Fx.ext ((C _).can.ext (1 : Fx p).can fun i => by
  rw [co_C]
  split
  · rename_i h; subst h; exact Nat.mod_eq_of_lt hp.fld.two
  · exact (co_ge (f := [1]) (show 1 ≤ i by omega)).symm)
theorem C_inv {a : Nat} (h : a % p ≠ 0) : C (p := p) a * C (invM a p) = 1 := by
  rw [C_mul, ← C_mod, (hp.fld.invM h).1, C_one]
theorem C_ne {a : Nat} (h : a % p ≠ 0) : C (p := p) a ≠ 0 := fun e => by
  have := C_inv (p := p) h
  rw [e, Cr.zero_mul] at this
  have h2 := n_one (p := p)
  rw [← this, n_zero.2 rfl] at h2
  omega

/-! ### monic polynomials -/
def lead (a : Fx p) : Nat := co a.l (a.n - 1)
def Monic (a : Fx p) : Prop := a ≠ 0 ∧ lead a = 1
def monic (a : Fx p) : Fx p := ⟨monicM p a.l, monicM_can hp.fld _⟩
theorem monic_zero : monic (0 : Fx p) = 0 := rfl
theorem monic_eq {a : Fx p} (h : a ≠ 0) : monic a = C (invM (lead a) p) * a := by
  rw [← scale_eq]
  refine Fx.ext ?_
  show monicM p a.l = scaleM p a.l (invM (lead a) p)
  unfold monicM
  rw [if_neg (l_ne h)]; rfl
theorem lead_ne {a : Fx p} (h : a ≠ 0) : lead a % p ≠ 0 := lead_mod h
theorem monic_back {a : Fx p} (h : a ≠ 0) : a = C (lead a) * monic a := by
  rw [monic_eq h, ← Cr.mul_assoc, C_inv (lead_ne h), Cr.one_mul]
theorem monic_dvd (a : Fx p) : monic a ∣ a := by
  by_cases h : a = 0
  · rw [h]; exact Cr.dvd_zero _
  · refine ⟨C (lead a), ?_⟩
    rw [Cr.mul_comm]; exact monic_back h
theorem dvd_monic (a : Fx p) : a ∣ monic a := by
  by_cases h : a = 0
  · rw [h, monic_zero]; exact Cr.dvd_zero _
  · refine ⟨C (invM (lead a) p), ?_⟩
    rw [Cr.mul_comm]; exact monic_eq h
theorem monic_ne {a : Fx p} (h : a ≠ 0) : monic a ≠ 0 := fun e => h (by
  have := monic_dvd a
  rw [e] at this
  obtain ⟨c, hc⟩ := this
  rw [hc, Cr.zero_mul])
theorem n_monic (a : Fx p) : (monic a).n = a.n := by
  by_cases h : a = 0
  · rw [h, monic_zero]
  · have := n_dvd h (monic_dvd a)
    have := n_dvd (monic_ne h) (dvd_monic a)
    omega
theorem lead_monic {a : Fx p} (h : a ≠ 0) : Monic (monic a) := by
  refine ⟨monic_ne h, ?_⟩
  unfold lead
  rw [n_monic]
  show co (monicM p a.l) (a.n - 1) = 1
  unfold monicM
  rw [if_neg (l_ne h), co_scaleM]
  exact (hp.fld.invM (lead_ne h)).1
theorem monic_self {a : Fx p} (h : Monic a) : monic a = a := by
  rw [monic_eq h.1, h.2]
  have : invM 1 p % p = 1 := by
    have := (hp.fld.invM (a := 1) (by rw [Nat.mod_eq_of_lt hp.fld.two]; omega)).1
    rwa [Nat.one_mul] at this
  rw [← C_mod, this, C_one, Cr.one_mul]

/-! ### the greatest common divisor -/
def gcd (a b : Fx p) : Fx p := ⟨gcdM p a.l b.l, gcdM_can hp.fld _ _⟩
theorem gcd_zero (a : Fx p) : gcd a 0 = monic a := Fx.ext (gcdF_nil _)
theorem gcdF_more (p : Nat) (hp : Fld p) : ∀ (n m : Nat) (f g : List Nat), Can p f → Can p g → g.length ≤ n → g.length ≤ m → gcdF p n f g = gcdF p m f g
  | n, m, f, [], _, _, _, _ => by rw [gcdF_nil, gcdF_nil]
  | n + 1, m + 1, f, x :: g, cf, cg, h1, h2 => by
    have hne : x :: g ≠ [] := fun h => by cases h
    rw [gcdF_step hne, gcdF_step hne]
    have r := remM_can hp cf cg hne
    have hl : (x :: g).length = g.length + 1 := rfl
    exact gcdF_more p hp n m (x :: g) _ cg r.1 (by omega) (by omega)
  | 0, _, _, _ :: _, _, _, h, _ => absurd h (by simp)
  | _, 0, _, _ :: _, _, _, _, h => absurd h (by simp)
theorem gcd_step (a : Fx p) {b : Fx p} (hb : b ≠ 0) : gcd a b = gcd b (rem a b) := by
  refine Fx.ext ?_
  show gcdM p a.l b.l = gcdM p b.l (rem a b).l
  rw [rem_l hb]
  unfold gcdM
  have r := remM_can hp.fld a.can b.can (l_ne hb)
  obtain ⟨k, hk⟩ : ∃ k, b.l.length = k + 1 := ⟨b.l.length - 1, by omega⟩
  rw [hk, gcdF_step (l_ne hb)]
  exact gcdF_more p hp.fld _ _ _ _ b.can r.1 (by omega) (Nat.le_refl _)
theorem gcd_ind {P : Fx p → Fx p → Prop} (h0 : ∀ a, P a 0) (h1 : ∀ a b, b ≠ 0 → P b (rem a b) → P a b) (a b : Fx p) : P a b := by
  have : ∀ k (a b : Fx p), b.n ≤ k → P a b := by
    intro k
    induction k with
    | zero => intro a b h; rw [n_zero.1 (show b.n = 0 by omega)]; exact h0 a
    | succ k ih =>
      intro a b h
      by_cases hb : b = 0
      · rw [hb]; exact h0 a
      · exact h1 a b hb (ih _ _ (by have := (quo_rem a hb).2; omega))
  exact this b.n a b (Nat.le_refl _)
/-- it divides both, and is a combination of both -/
theorem gcd_spec (a b : Fx p) : gcd a b ∣ a ∧ gcd a b ∣ b ∧ ∃ u v, gcd a b = u * a + v * b := by
  refine gcd_ind (P := fun a b => gcd a b ∣ a ∧ gcd a b ∣ b ∧ ∃ u v, gcd a b = u * a + v * b) (fun a => ?_) (fun a b hb ih => ?_) a b
  · rw [gcd_zero]
    refine ⟨monic_dvd a, Cr.dvd_zero _, ?_⟩
    obtain ⟨c, hc⟩ := dvd_monic a
    exact ⟨c, 0, by rw [hc, Cr.zero_mul, Cr.add_zero, Cr.mul_comm]⟩
  · rw [gcd_step a hb]
    obtain ⟨i1, i2, u, v, i3⟩ := ih
    obtain ⟨e, -⟩ := quo_rem a hb
    refine ⟨?_, i1, v, u - v * quo a b, ?_⟩
    · have := Cr.dvd_add (Cr.dvd_mul_left (quo a b) i1) i2
      rwa [← e] at this
    · rw [i3]
      have e2 : v * (quo a b * b + rem a b) + (u - v * quo a b) * b = u * b + v * rem a b := Cr.id5 u v (quo a b) b (rem a b) (fun u v q b r => v * (q * b + r) + (u - v * q) * b) (fun u v _ b r => u * b + v * r) rfl
      rw [← e] at e2
      exact e2.symm
theorem dvd_gcd {a b c : Fx p} (h : c ∣ a) (k : c ∣ b) : c ∣ gcd a b := by
  obtain ⟨-, -, u, v, e⟩ := gcd_spec a b
  rw [e]
  exact Cr.dvd_add (Cr.dvd_mul_left u h) (Cr.dvd_mul_left v k)
theorem gcd_ne {a b : Fx p} (h : ¬ (a = 0 ∧ b = 0)) : gcd a b ≠ 0 := fun e => h (by
  obtain ⟨⟨c, hc⟩, ⟨d, hd⟩, -⟩ := gcd_spec a b
  rw [e] at hc hd
  exact ⟨by rw [hc, Cr.zero_mul], by rw [hd, Cr.zero_mul]⟩)
theorem gcd_monic {a b : Fx p} : gcd a b = 0 ∨ Monic (gcd a b) := by
  refine gcd_ind (P := fun a b => gcd a b = 0 ∨ Monic (gcd a b)) (fun a => ?_) (fun a b hb ih => ?_) a b
  · rw [gcd_zero]
    by_cases h : a = 0
    · rw [h]; exact Or.inl rfl
    · exact Or.inr (lead_monic h)
  · rw [gcd_step a hb]; exact ih

/-! ### derivatives -/
def deriv (a : Fx p) : Fx p := ⟨derivM p a.l, derivM_can hp.fld _⟩
/-- the coefficients, each times its place -/
def th (s : Ser) : Ser := fun i => i * s i
theorem th_cv (a b : Ser) : th (cv a b) = fun n => cv (th a) b n + cv a (th b) n := by
  funext n
  unfold th cv
  rw [← isum_mul, ← isum_add]
  refine isum_congr fun i hi => ?_
  have : (n : Int) = (i : Int) + ((n - i : Nat) : Int) := by omega
  rw [this, Int.add_mul]
  congr 1
  · rw [← Int.mul_assoc]
  · rw [← Int.mul_assoc, ← Int.mul_assoc, Int.mul_comm ((n - i : Nat) : Int) (a i)]
omit hp in
theorem Cg.tl {a b : Ser} (h : Cg p a b) : Cg p (Vc.tl a) (Vc.tl b) := fun n => h (n + 1)
omit hp in
theorem Cg.th {a b : Ser} (h : Cg p a b) : Cg p (th a) (th b) := fun n => by
  show (p : Int) ∣ n * a n - n * b n
  rw [← Int.mul_sub]
  exact Int.dvd_mul_of_dvd_right (h n)
theorem ser_deriv (a : Fx p) : Cg p (deriv a).ser (tl (th a.ser)) := by
  have : (deriv a).ser = fun i => ((co a.l (i + 1) * (i + 1) % p : Nat) : Int) := funext fun i => by
    show ((co (derivM p a.l) i : Nat) : Int) = _
    unfold derivM
    rw [co_cnf]
    split
    · rfl
    · rw [co_ge (f := a.l) (by omega), Nat.zero_mul, Nat.zero_mod]
  rw [this]
  refine cg_mod fun i => ?_
  show _ = ((i + 1 : Nat) : Int) * (co a.l (i + 1) : Int)
  rw [Int.natCast_mul, Int.mul_comm]
theorem cv_tl_th (a b : Ser) : tl (cv (th a) b) = cv (tl (th a)) b := by
  funext n
  show cv (th a) b (n + 1) = _
  rw [cv_succ]
  show ((0 : Nat) : Int) * a 0 * _ + _ = _
  simp
theorem deriv_mul (a b : Fx p) : deriv (a * b) = deriv a * b + a * deriv b := ext_cg (by
  refine (ser_deriv _).trans ((Cg.tl (Cg.th (ser_mul a b))).trans ?_)
  rw [th_cv]
  refine Cg.trans (Cg.of_eq ?_) ((ser_add _ _).trans (((ser_mul _ _).trans ((ser_deriv a).mul Cg.rfl)).add ((ser_mul _ _).trans (Cg.rfl.mul (ser_deriv b))))).symm
  rw [← cv_tl_th, cv_comm a.ser (Vc.tl _), ← cv_tl_th, cv_comm a.ser]
  rfl)
/-- a square divides: so does its root the derivative -/
theorem square_gcd {f g : Fx p} : g ∣ gcd (f * (g * g)) (deriv (f * (g * g))) := by
  refine dvd_gcd ⟨f * g, Cr.id2 f g (fun f g => f * (g * g)) (fun f g => g * (f * g)) rfl⟩ ?_
  rw [deriv_mul, deriv_mul]
  exact ⟨deriv f * g + f * deriv g + f * deriv g, Cr.id4 f g (deriv f) (deriv g) (fun f g a b => a * (g * g) + f * (b * g + g * b)) (fun f g a b => g * (a * g + f * b + f * b)) rfl⟩
theorem square_not {f g : Fx p} (hg : 2 ≤ g.n) : (gcd (f * (g * g)) (deriv (f * (g * g)))).n ≠ 1 := by
  intro h
  have h0 : gcd (f * (g * g)) (deriv (f * (g * g))) ≠ 0 := fun e => by rw [e, n_zero.2 rfl] at h; omega
  have := n_dvd h0 (square_gcd (f := f) (g := g))
  omega
end Fx
end Go.Vc
