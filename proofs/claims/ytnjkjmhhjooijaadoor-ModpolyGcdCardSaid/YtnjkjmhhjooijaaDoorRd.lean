/- Remainders of powers. -/
import Derived.Test.YtnjkjmhhjooijaaDoorRc
namespace Go.Vc
namespace Fx
variable {p : Nat} [hp : Pr p]

theorem rem_mul {a b g : Fx p} (hg : g ≠ 0) : rem (rem a g * rem b g) g = rem (a * b) g := by
  refine (rem_eq hg).2 ?_
  have h1 := Cr.dvd_neg (rem_dvd a hg)
  have h2 := Cr.dvd_neg (rem_dvd b hg)
  have h3 := Cr.dvd_add (Cr.dvd_mul_right (rem b g) h1) (Cr.dvd_mul_left a h2)
  have e : -(a - rem a g) * rem b g + a * -(b - rem b g) = rem a g * rem b g - a * b := Cr.id4 a b (rem a g) (rem b g) (fun a b r s => -(a - r) * s + a * -(b - s)) (fun a b r s => r * s - a * b) rfl
  rwa [e] at h3
theorem rem_rem {a g : Fx p} (hg : g ≠ 0) : rem (rem a g) g = rem a g := rem_self (quo_rem a hg).2
theorem mul_l (a b : Fx p) : (a * b).l = mulM p a.l b.l := rfl
theorem remM_mul {a b g : Fx p} (hg : g ≠ 0) : remM p (mulM p (rem a g).l (rem b g).l) g.l = (rem (a * b) g).l := by
  rw [← mul_l, ← rem_l hg, rem_mul hg]
theorem powF_eq {g : Fx p} (hg : g ≠ 0) : ∀ (k n : Nat) (R S : Fx p), n ≤ k → powF p g.l k n (rem R g).l (rem S g).l = (rem (R * Cr.pw S n) g).l
  | 0, n, R, S, h => by
    obtain rfl : n = 0 := by omega
    rw [powF_zero]
    show _ = (rem (R * 1) g).l
    rw [Cr.mul_one]
  | k + 1, n, R, S, h => by
    by_cases hn : n = 0
    · subst hn
      rw [powF_zero]
      show _ = (rem (R * 1) g).l
      rw [Cr.mul_one]
    rw [powF_succ hn]
    have e1 : (if n % 2 = 0 then (rem R g).l else remM p (mulM p (rem R g).l (rem S g).l) g.l) = (rem (R * Cr.pw S (n % 2)) g).l := by
      split
      · rename_i h; rw [h]; show _ = (rem (R * 1) g).l; rw [Cr.mul_one]
      · rename_i h
        rw [show n % 2 = 1 by omega, remM_mul hg]
        show _ = (rem (R * (1 * S)) g).l
        rw [Cr.one_mul]
    rw [e1]
    by_cases h2 : n / 2 = 0
    · rw [if_pos h2, h2, powF_zero, show n % 2 = n by omega]
    · rw [if_neg h2, remM_mul hg, powF_eq hg k (n / 2) _ _ (by omega)]
      have e2 : R * Cr.pw S (n % 2) * Cr.pw (S * S) (n / 2) = R * Cr.pw S n := by
        have e3 : Cr.pw (S * S) (n / 2) = Cr.pw S (2 * (n / 2)) := by
          rw [Cr.pw_mul]
          congr 1
          show S * S = 1 * S * S
          rw [Cr.one_mul]
        rw [e3, Cr.mul_assoc, ← Cr.pw_add]
        congr 2
        omega
      rw [e2]
/-- the power is the remainder of the power -/
theorem powM_eq {f g : Fx p} (hg : g ≠ 0) (n : Nat) : powM p f.l n g.l = (rem (Cr.pw f n) g).l := by
  unfold powM
  have e1 : remM p [1] g.l = (rem (1 : Fx p) g).l := (rem_l (a := 1) hg).symm
  have e2 : remM p f.l g.l = (rem f g).l := (rem_l (a := f) hg).symm
  rw [e1, e2, powF_eq hg n n 1 f (Nat.le_refl _), Cr.one_mul]
end Fx
end Go.Vc
