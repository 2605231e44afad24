/- Polynomials modulo a prime: the ring of the canonical lists. -/
import Derived.Test.YtnjkjmhhjooijaaDoorRa
import Derived.Test.YtnjkjmhhjooijaaDoorMi
namespace Go.Vc

/-- p is a prime -/
class Pr (p : Nat) : Prop where
  fld : Fld p
theorem Pr.pos {p : Nat} [h : Pr p] : 0 < p := by have := h.fld.two; omega

@[ext] structure Fx (p : Nat) where
  l : List Nat
  can : Can p l

namespace Fx
variable {p : Nat}
def ser (a : Fx p) : Ser := fun i => (co a.l i : Int)
theorem ext_cg [Pr p] {a b : Fx p} (h : Cg p a.ser b.ser) : a = b := by
  refine Fx.ext (a.can.ext b.can fun i => ?_)
  have h1 := a.can.co_lt Pr.pos i
  have h2 := b.can.co_lt Pr.pos i
  obtain ⟨k, hk⟩ := h i
  have hk : (co a.l i : Int) - co b.l i = p * k := hk
  have k0 : k = 0 := by
    apply Classical.byContradiction
    intro hk0
    rcases Int.lt_or_gt_of_ne hk0 with hneg | hpos
    · have : (p : Int) * k ≤ (p : Int) * (-1) := Int.mul_le_mul_of_nonneg_left (by omega) (by omega)
      omega
    · have : (p : Int) * 1 ≤ (p : Int) * k := Int.mul_le_mul_of_nonneg_left (by omega) (by omega)
      omega
  subst k0
  omega

variable [hp : Pr p]
omit hp in
theorem cg_mod {c : Nat → Nat} {s : Ser} (h : ∀ i, (c i : Int) = s i) : Cg p (fun i => ((c i % p : Nat) : Int)) s := fun i => by
  refine ⟨-((c i / p : Nat) : Int), ?_⟩
  have e : ((c i : Nat) : Int) = p * ((c i / p : Nat) : Int) + ((c i % p : Nat) : Int) := by rw [← Int.natCast_mul, ← Int.natCast_add, Nat.div_add_mod]
  show ((c i % p : Nat) : Int) - s i = _
  rw [← h i, e, Int.mul_neg]; omega
instance : Zero (Fx p) := ⟨⟨[], Can.nil p⟩⟩
instance : One (Fx p) := ⟨⟨[1], one_can hp.fld⟩⟩
instance : Add (Fx p) := ⟨fun a b => ⟨addM p a.l b.l, addM_can hp.fld _ _⟩⟩
instance : Mul (Fx p) := ⟨fun a b => ⟨mulM p a.l b.l, mulM_can hp.fld _ _⟩⟩
instance : Sub (Fx p) := ⟨fun a b => ⟨subM p a.l b.l, subM_can hp.fld _ _⟩⟩
instance : Neg (Fx p) := ⟨fun a => ⟨subM p [] a.l, subM_can hp.fld _ _⟩⟩
omit hp in
theorem co_addM (f g : List Nat) (i : Nat) : co (addM p f g) i = (co f i + co g i) % p := by
  unfold addM
  rw [co_cnf]
  split
  · rfl
  · rw [co_ge (f := f) (by omega), co_ge (f := g) (by omega)]; rfl
omit hp in
theorem co_subM (f g : List Nat) (i : Nat) : co (subM p f g) i = (co f i + (p - co g i % p)) % p := by
  unfold subM
  rw [co_cnf]
  split
  · rfl
  · rw [co_ge (f := f) (by omega), co_ge (f := g) (by omega), Nat.zero_mod, Nat.sub_zero, Nat.zero_add, Nat.mod_self]
omit hp in
theorem co_mulM (f g : List Nat) (i : Nat) : co (mulM p f g) i = conv f g i % p := by
  unfold mulM
  rw [co_cnf]
  split
  · rfl
  · rw [conv_ge (by omega), Nat.zero_mod]
theorem sumN_isum (n : Nat) (c : Nat → Nat) : ((sumN n c : Nat) : Int) = isum n fun i => (c i : Int) := by
  induction n with
  | zero => rfl
  | succ n ih => rw [sumN, isum, Int.natCast_add, ih]
theorem conv_cv (f g : List Nat) (i : Nat) : ((conv f g i : Nat) : Int) = cv (fun i => (co f i : Int)) (fun i => (co g i : Int)) i := by
  unfold conv cv
  rw [sumN_isum]
  exact isum_congr fun j _ => Int.natCast_mul _ _
theorem ser_add (a b : Fx p) : Cg p (a + b).ser (fun i => a.ser i + b.ser i) := by
  have : (a + b).ser = fun i => (((co a.l i + co b.l i) % p : Nat) : Int) := funext fun i => congrArg _ (co_addM _ _ _)
  rw [this]
  exact cg_mod fun i => Int.natCast_add _ _
theorem ser_mul (a b : Fx p) : Cg p (a * b).ser (cv a.ser b.ser) := by
  have : (a * b).ser = fun i => ((conv a.l b.l i % p : Nat) : Int) := funext fun i => congrArg _ (co_mulM _ _ _)
  rw [this]
  exact cg_mod fun i => conv_cv _ _ _
theorem ser_sub (a b : Fx p) : Cg p (a - b).ser (fun i => a.ser i - b.ser i) := by
  have : (a - b).ser = fun i => (((co a.l i + (p - co b.l i % p)) % p : Nat) : Int) := funext fun i => congrArg _ (co_subM _ _ _)
  rw [this]
  refine (cg_mod (s := fun i => (co a.l i : Int) + (p - (co b.l i : Int))) fun i => ?_).trans fun i => ?_
  · have h2 := b.can.co_lt Pr.pos i
    rw [Nat.mod_eq_of_lt h2, Int.natCast_add, Int.ofNat_sub (Nat.le_of_lt h2)]
  · refine ⟨1, ?_⟩
    show (co a.l i : Int) + (p - (co b.l i : Int)) - ((co a.l i : Int) - (co b.l i : Int)) = _
    omega
omit hp in
theorem ser_zero : (0 : Fx p).ser = zer := funext fun _ => rfl
theorem ser_neg (a : Fx p) : Cg p (-a).ser (fun i => -a.ser i) := by
  have h : (-a) = (0 : Fx p) - a := rfl
  rw [h]
  refine (ser_sub 0 a).trans (Cg.of_eq ?_)
  rw [ser_zero]
  funext i; show 0 - _ = _; rw [Int.zero_sub]
theorem ser_one : (1 : Fx p).ser = one := funext fun i => by
  cases i with
  | zero => rfl
  | succ i => rfl
instance : Cr (Fx p) where
  add_assoc a b c := ext_cg ((ser_add _ _).trans (((ser_add a b).add Cg.rfl).trans ((Cg.of_eq (funext fun _ => Int.add_assoc _ _ _)).trans ((ser_add _ _).trans (Cg.rfl.add (ser_add b c))).symm)))
  add_comm a b := ext_cg ((ser_add _ _).trans ((Cg.of_eq (funext fun _ => Int.add_comm _ _)).trans (ser_add b a).symm))
  add_zero a := ext_cg ((ser_add _ _).trans (Cg.of_eq (funext fun _ => Int.add_zero _)))
  add_neg a := ext_cg ((ser_add _ _).trans ((Cg.rfl.add (ser_neg a)).trans (Cg.of_eq (funext fun i => Int.add_right_neg (a.ser i)))))
  sub_eq a b := ext_cg ((ser_sub _ _).trans ((Cg.of_eq (funext fun _ => Int.sub_eq_add_neg)).trans ((ser_add _ _).trans (Cg.rfl.add (ser_neg b))).symm))
  mul_assoc a b c := ext_cg ((ser_mul _ _).trans (((ser_mul a b).mul Cg.rfl).trans ((Cg.of_eq (cv_assoc _ _ _)).trans ((ser_mul _ _).trans (Cg.rfl.mul (ser_mul b c))).symm)))
  mul_comm a b := ext_cg ((ser_mul _ _).trans ((Cg.of_eq (cv_comm _ _)).trans (ser_mul b a).symm))
  mul_one a := ext_cg ((ser_mul _ _).trans (Cg.of_eq (by rw [ser_one, cv_comm, cv_one])))
  mul_add a b c := ext_cg ((ser_mul _ _).trans ((Cg.rfl.mul (ser_add b c)).trans ((Cg.of_eq (by rw [cv_comm, cv_add, cv_comm b.ser, cv_comm c.ser])).trans ((ser_add _ _).trans ((ser_mul a b).add (ser_mul a c))).symm)))

/-- the number of coefficients -/
def n (a : Fx p) : Nat := a.l.length
omit hp in
theorem n_eq {a : Fx p} : a.n = a.l.length := rfl
omit hp in
theorem n_zero {a : Fx p} : a.n = 0 ↔ a = 0 := ⟨fun h => Fx.ext (List.length_eq_zero_iff.1 h), fun h => by rw [h]; rfl⟩
theorem n_one : (1 : Fx p).n = 1 := rfl
omit hp in
theorem n_le {a : Fx p} {k : Nat} (h : ∀ i, k ≤ i → co a.l i = 0) : a.n ≤ k := by
  apply Classical.byContradiction
  intro hk
  exact a.can.lead (by unfold n at hk; omega) (h _ (by unfold n at hk; omega))
omit hp in
theorem n_gt {a : Fx p} {k : Nat} (h : co a.l k ≠ 0) : k < a.n := by
  apply Classical.byContradiction
  intro hk
  exact h (co_ge (by unfold n at hk; omega))
theorem n_add (a b : Fx p) : (a + b).n ≤ max a.n b.n := n_le fun i hi => by
  show co (addM p a.l b.l) i = 0
  rw [co_addM, co_ge (f := a.l) (by unfold n at hi; omega), co_ge (f := b.l) (by unfold n at hi; omega), Nat.zero_mod]
theorem n_sub (a b : Fx p) : (a - b).n ≤ max a.n b.n := n_le fun i hi => by
  show co (subM p a.l b.l) i = 0
  rw [co_subM, co_ge (f := a.l) (by unfold n at hi; omega), co_ge (f := b.l) (by unfold n at hi; omega), Nat.zero_mod, Nat.sub_zero, Nat.zero_add, Nat.mod_self]
/-- the top of a product -/
theorem conv_top {f g : List Nat} (hf : f.length ≠ 0) (hg : g.length ≠ 0) : conv f g (f.length + g.length - 2) = co f (f.length - 1) * co g (g.length - 1) := by
  unfold conv
  have e : (fun i => co f i * co g (f.length + g.length - 2 - i)) = fun i => if i = f.length - 1 then co f i * co g (f.length + g.length - 2 - i) else 0 := by
    funext i
    split
    · rfl
    · rename_i h
      by_cases h2 : i < f.length
      · rw [co_ge (f := g) (by omega), Nat.mul_zero]
      · rw [co_ge (f := f) (by omega), Nat.zero_mul]
  rw [e, sumN_single, if_pos (by omega), show f.length + g.length - 2 - (f.length - 1) = g.length - 1 by omega]
theorem mul_ne {a b : Nat} (ha : a % p ≠ 0) (hb : b % p ≠ 0) : a * b % p ≠ 0 := by
  intro h
  obtain ⟨hi, -⟩ := hp.fld.invM ha
  apply hb
  have h2 := hp.fld.two
  have e : (a * Vc.invM a p) * b % p = b % p := by rw [Nat.mul_mod, hi, Nat.one_mul, Nat.mod_mod]
  rw [← e, Nat.mul_comm a, Nat.mul_assoc, Nat.mul_mod, h, Nat.mul_zero, Nat.zero_mod]
theorem lead_mod {a : Fx p} (ha : a ≠ 0) : co a.l (a.n - 1) % p ≠ 0 := by
  rw [a.can.mod Pr.pos]
  exact a.can.lead fun h => ha (n_zero.1 h)
theorem n_mul {a b : Fx p} (ha : a ≠ 0) (hb : b ≠ 0) : (a * b).n = a.n + b.n - 1 := by
  have h1 : a.n ≠ 0 := fun h => ha (n_zero.1 h)
  have h2 : b.n ≠ 0 := fun h => hb (n_zero.1 h)
  have h3 : co (a * b).l (a.n + b.n - 2) ≠ 0 := by
    show co (mulM p a.l b.l) _ ≠ 0
    unfold n
    rw [co_mulM, conv_top h1 h2]
    exact mul_ne (lead_mod ha) (lead_mod hb)
  have h4 := n_gt h3
  have h5 : (a * b).n ≤ a.n + b.n - 1 := n_le fun i hi => by
    show co (mulM p a.l b.l) i = 0
    rw [co_mulM, conv_ge (by unfold n at hi; omega), Nat.zero_mod]
  omega
theorem mul_ne_zero {a b : Fx p} (ha : a ≠ 0) (hb : b ≠ 0) : a * b ≠ 0 := by
  intro h
  have := n_mul ha hb
  have h1 : a.n ≠ 0 := fun h => ha (n_zero.1 h)
  have h2 : b.n ≠ 0 := fun h => hb (n_zero.1 h)
  rw [h, n_zero.2 rfl] at this
  omega
theorem mul_zero_or {a b : Fx p} (h : a * b = 0) : a = 0 ∨ b = 0 := by
  by_cases ha : a = 0
  · exact Or.inl ha
  · by_cases hb : b = 0
    · exact Or.inr hb
    · exact absurd h (mul_ne_zero ha hb)
theorem mul_cancel {a b c : Fx p} (hc : c ≠ 0) (h : c * a = c * b) : a = b := by
  have e : c * (a - b) = c * a - c * b := Cr.id3 a b c (fun a b c => c * (a - b)) (fun a b c => c * a - c * b) rfl
  rw [h, Cr.sub_self] at e
  exact Cr.eq_of_sub ((mul_zero_or e).resolve_left hc)
theorem n_dvd {a b : Fx p} (hb : b ≠ 0) (h : a ∣ b) : a.n ≤ b.n := by
  obtain ⟨c, rfl⟩ := h
  have ha : a ≠ 0 := fun h => hb (by rw [h, Cr.zero_mul])
  have hc : c ≠ 0 := fun h => hb (by rw [h, Cr.mul_zero])
  rw [n_mul ha hc]
  have h2 : c.n ≠ 0 := fun h => hc (n_zero.1 h)
  omega

/-! ### division -/
def quo (a b : Fx p) : Fx p := if h : b.l = [] then 0 else ⟨(divM p a.l b.l).1, (divM_sem hp.fld a.can b.can h).cq⟩
def rem (a b : Fx p) : Fx p := if h : b.l = [] then 0 else ⟨(divM p a.l b.l).2, (divM_sem hp.fld a.can b.can h).cr⟩
omit hp in
theorem l_ne [Pr p] {b : Fx p} (h : b ≠ 0) : b.l ≠ [] := fun e => h (Fx.ext e)
theorem rem_l {a b : Fx p} (h : b ≠ 0) : (rem a b).l = remM p a.l b.l := by unfold rem; rw [dif_neg (l_ne h)]; rfl
theorem quo_l {a b : Fx p} (h : b ≠ 0) : (quo a b).l = (divM p a.l b.l).1 := by unfold quo; rw [dif_neg (l_ne h)]
end Fx
end Go.Vc
