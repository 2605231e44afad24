/- Polynomials modulo p as coefficient functions: plain facts. -/
import Derived.Test.YtnjkjmhhjooijaaDoorMr
namespace Go.Vc

def isum (n : Nat) (c : Nat → Int) : Int := match n with | 0 => 0 | n + 1 => isum n c + c n
theorem isum_congr {n : Nat} {c d : Nat → Int} (h : ∀ i, i < n → c i = d i) : isum n c = isum n d := by
  induction n with
  | zero => rfl
  | succ n ih => simp only [isum, ih fun i hi => h i (by omega), h n (by omega)]
theorem isum_zero {n : Nat} {c : Nat → Int} (h : ∀ i, i < n → c i = 0) : isum n c = 0 := by
  induction n with
  | zero => rfl
  | succ n ih => simp only [isum, ih fun i hi => h i (by omega), h n (by omega), Int.add_zero]
theorem isum_add (n : Nat) (c d : Nat → Int) : isum n (fun i => c i + d i) = isum n c + isum n d := by
  induction n with
  | zero => rfl
  | succ n ih => simp only [isum, ih]; omega
theorem isum_neg (n : Nat) (c : Nat → Int) : isum n (fun i => -c i) = -isum n c := by
  induction n with
  | zero => rfl
  | succ n ih => simp only [isum, ih]; omega
theorem isum_mul (n : Nat) (a : Int) (c : Nat → Int) : isum n (fun i => a * c i) = a * isum n c := by
  induction n with
  | zero => simp [isum]
  | succ n ih => simp only [isum, ih, Int.mul_add]
theorem isum_shift (n : Nat) (c : Nat → Int) : isum (n + 1) c = c 0 + isum n fun i => c (i + 1) := by
  induction n with
  | zero => simp [isum]
  | succ n ih =>
    rw [isum, ih]
    simp only [isum]; omega
theorem isum_rev (n : Nat) (c : Nat → Int) : isum (n + 1) c = isum (n + 1) fun i => c (n - i) := by
  induction n generalizing c with
  | zero => rfl
  | succ n ih =>
    rw [isum_shift, ih]
    show _ = isum (n + 1) (fun i => c (n + 1 - i)) + c (n + 1 - (n + 1))
    rw [Nat.sub_self, Int.add_comm]
    congr 1
    exact isum_congr fun i hi => by congr 1; omega

abbrev Ser := Nat → Int
def cv (a b : Ser) : Ser := fun n => isum (n + 1) fun i => a i * b (n - i)
def tl (a : Ser) : Ser := fun n => a (n + 1)
theorem cv_zero (a b : Ser) : cv a b 0 = a 0 * b 0 := by simp [cv, isum]
theorem cv_succ (a b : Ser) (n : Nat) : cv a b (n + 1) = a 0 * b (n + 1) + cv (tl a) b n := by
  unfold cv
  rw [isum_shift]
  congr 1
  exact isum_congr fun i _ => by show a (i + 1) * b (n + 1 - (i + 1)) = a (i + 1) * b (n - i); congr 2; omega
theorem cv_comm (a b : Ser) : cv a b = cv b a := by
  funext n
  unfold cv
  rw [isum_rev]
  exact isum_congr fun i hi => by rw [Int.mul_comm, show n - (n - i) = i by omega]
theorem cv_add (a b c : Ser) : cv (fun i => a i + b i) c = fun n => cv a c n + cv b c n := by
  funext n
  unfold cv
  rw [← isum_add]
  exact isum_congr fun i _ => Int.add_mul _ _ _
theorem cv_smul (k : Int) (a c : Ser) : cv (fun i => k * a i) c = fun n => k * cv a c n := by
  funext n
  unfold cv
  rw [← isum_mul]
  exact isum_congr fun i _ => Int.mul_assoc _ _ _
theorem cv_neg (a c : Ser) : cv (fun i => -a i) c = fun n => -cv a c n := by
  funext n
  unfold cv
  rw [← isum_neg]
  exact isum_congr fun i _ => Int.neg_mul _ _
theorem cv_assoc (a b c : Ser) : cv (cv a b) c = cv a (cv b c) := by
  funext n
  induction n generalizing a with
  | zero => rw [cv_zero, cv_zero, cv_zero, cv_zero, Int.mul_assoc]
  | succ n ih =>
    rw [cv_succ, cv_succ a (cv b c)]
    have e : tl (cv a b) = fun k => a 0 * tl b k + cv (tl a) b k := by
      funext k
      exact cv_succ a b k
    rw [e, cv_add, cv_smul, cv_zero, cv_succ b c]
    dsimp only
    rw [ih (tl a), Int.mul_add, Int.mul_assoc]
    omega
def one : Ser := fun n => if n = 0 then 1 else 0
theorem cv_one (a : Ser) : cv one a = a := by
  funext n
  cases n with
  | zero => rw [cv_zero]; simp [one]
  | succ n =>
    rw [cv_succ]
    have : cv (tl one) a n = 0 := isum_zero fun i _ => by simp [tl, one]
    rw [this]; simp [one]
def zer : Ser := fun _ => 0
theorem cv_zer (a : Ser) : cv zer a = zer := by
  funext n; exact isum_zero fun i _ => by simp [zer]

/-- equal modulo p -/
def Cg (p : Nat) (a b : Ser) : Prop := ∀ n, (p : Int) ∣ a n - b n
section
variable {p : Nat} {a b c d : Ser}
theorem Cg.rfl : Cg p a a := fun n => by rw [Int.sub_self]; exact Int.dvd_zero _
theorem Cg.of_eq (h : a = b) : Cg p a b := h ▸ Cg.rfl
theorem Cg.symm (h : Cg p a b) : Cg p b a := fun n => by
  have := h n
  rw [← Int.dvd_neg] at this
  rwa [show -(a n - b n) = b n - a n by omega] at this
theorem Cg.trans (h : Cg p a b) (k : Cg p b c) : Cg p a c := fun n => by
  have := Int.dvd_add (h n) (k n)
  rwa [show a n - b n + (b n - c n) = a n - c n by omega] at this
theorem Cg.add (h : Cg p a b) (k : Cg p c d) : Cg p (fun i => a i + c i) (fun i => b i + d i) := fun n => by
  have := Int.dvd_add (h n) (k n)
  rwa [show a n - b n + (c n - d n) = a n + c n - (b n + d n) by omega] at this
theorem Cg.neg (h : Cg p a b) : Cg p (fun i => -a i) (fun i => -b i) := fun n => by
  have := h.symm n
  rwa [show b n - a n = -a n - -b n by omega] at this
theorem Cg.sub (h : Cg p a b) (k : Cg p c d) : Cg p (fun i => a i - c i) (fun i => b i - d i) := h.add k.neg
theorem isum_dvd {n : Nat} {c : Nat → Int} (h : ∀ i, i < n → (p : Int) ∣ c i) : (p : Int) ∣ isum n c := by
  induction n with
  | zero => exact Int.dvd_zero _
  | succ n ih => exact Int.dvd_add (ih fun i hi => h i (by omega)) (h n (by omega))
theorem Cg.mul_left (h : Cg p a b) (c : Ser) : Cg p (cv a c) (cv b c) := fun n => by
  have e : cv a c n - cv b c n = isum (n + 1) fun i => (a i - b i) * c (n - i) := by
    unfold cv
    rw [Int.sub_eq_add_neg, ← isum_neg, ← isum_add]
    exact isum_congr fun i _ => by rw [Int.sub_mul]; omega
  rw [e]
  exact isum_dvd fun i _ => Int.dvd_mul_of_dvd_left (h i)
theorem Cg.mul (h : Cg p a b) (k : Cg p c d) : Cg p (cv a c) (cv b d) := (h.mul_left c).trans (by rw [cv_comm b c, cv_comm b d]; exact k.mul_left b)
end
end Go.Vc
