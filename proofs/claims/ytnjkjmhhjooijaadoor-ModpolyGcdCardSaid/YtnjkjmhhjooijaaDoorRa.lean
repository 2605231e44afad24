/- Commutative rings, and a prover of their identities. -/
import Derived.Test.YtnjkjmhhjooijaaDoorPt
namespace Go.Vc

class Cr (R : Type) extends Add R, Mul R, Neg R, Sub R, Zero R, One R where
  add_assoc : ∀ a b c : R, a + b + c = a + (b + c)
  add_comm : ∀ a b : R, a + b = b + a
  add_zero : ∀ a : R, a + 0 = a
  add_neg : ∀ a : R, a + -a = 0
  sub_eq : ∀ a b : R, a - b = a + -b
  mul_assoc : ∀ a b c : R, a * b * c = a * (b * c)
  mul_comm : ∀ a b : R, a * b = b * a
  mul_one : ∀ a : R, a * 1 = a
  mul_add : ∀ a b c : R, a * (b + c) = a * b + a * c

/-- expressions -/
inductive Rx where
  | v (n : Nat)
  | zero
  | one
  | add (a b : Rx)
  | mul (a b : Rx)
  | neg (a : Rx)
  | sub (a b : Rx)
instance : Add Rx := ⟨Rx.add⟩
instance : Mul Rx := ⟨Rx.mul⟩
instance : Neg Rx := ⟨Rx.neg⟩
instance : Sub Rx := ⟨Rx.sub⟩
instance : Zero Rx := ⟨Rx.zero⟩
instance : One Rx := ⟨Rx.one⟩

namespace Cr
variable {R : Type} [Cr R]
theorem zero_add (a : R) : 0 + a = a := by rw [add_comm, add_zero]
theorem one_mul (a : R) : 1 * a = a := by rw [mul_comm, mul_one]
theorem add_mul (a b c : R) : (a + b) * c = a * c + b * c := by rw [mul_comm, mul_add, mul_comm c, mul_comm c]
theorem add_cancel {a b c : R} (h : a + c = b + c) : a = b := by
  have : a + c + -c = b + c + -c := by rw [h]
  rwa [add_assoc, add_assoc, add_neg, add_zero, add_zero] at this
theorem mul_zero (a : R) : a * 0 = 0 := by
  refine add_cancel (c := a * 0) ?_
  rw [← mul_add, add_zero, zero_add]
theorem zero_mul (a : R) : 0 * a = 0 := by rw [mul_comm, mul_zero]
theorem add_left_comm (a b c : R) : a + (b + c) = b + (a + c) := by rw [← add_assoc, add_comm a b, add_assoc]
theorem mul_left_comm (a b c : R) : a * (b * c) = b * (a * c) := by rw [← mul_assoc, mul_comm a b, mul_assoc]

def ev (ρ : Nat → R) : Rx → R
  | .v n => ρ n
  | .zero => 0
  | .one => 1
  | .add a b => ev ρ a + ev ρ b
  | .mul a b => ev ρ a * ev ρ b
  | .neg a => -ev ρ a
  | .sub a b => ev ρ a - ev ρ b

def mono (ρ : Nat → R) : List Nat → R
  | [] => 1
  | x :: l => ρ x * mono ρ l
def tot (ρ : Nat → R) : List (List Nat) → R
  | [] => 0
  | m :: l => mono ρ m + tot ρ l
end Cr
def insN (x : Nat) : List Nat → List Nat
  | [] => [x]
  | y :: l => match Nat.ble x y with | true => x :: y :: l | false => y :: insN x l
def mrg : List Nat → List Nat → List Nat
  | [], b => b
  | x :: a, b => insN x (mrg a b)
def mul1 (m : List Nat) : List (List Nat) → List (List Nat)
  | [] => []
  | k :: l => mrg m k :: mul1 m l
def mulT : List (List Nat) → List (List Nat) → List (List Nat)
  | [], _ => []
  | m :: l, k => mul1 m k ++ mulT l k
def expd : Rx → List (List Nat) × List (List Nat)
  | .v n => ([[n]], [])
  | .zero => ([], [])
  | .one => ([[]], [])
  | .add a b => ((expd a).1 ++ (expd b).1, (expd a).2 ++ (expd b).2)
  | .neg a => ((expd a).2, (expd a).1)
  | .sub a b => ((expd a).1 ++ (expd b).2, (expd a).2 ++ (expd b).1)
  | .mul a b => (mulT (expd a).1 (expd b).1 ++ mulT (expd a).2 (expd b).2, mulT (expd a).1 (expd b).2 ++ mulT (expd a).2 (expd b).1)
def eqL : List Nat → List Nat → Bool
  | [], [] => true
  | x :: a, y :: b => match Nat.beq x y with | true => eqL a b | false => false
  | _, _ => false
def strikeL (m : List Nat) : List (List Nat) → Option (List (List Nat))
  | [] => none
  | k :: l => match eqL m k with | true => some l | false => match strikeL m l with | some l' => some (k :: l') | none => none
def sameT : List (List Nat) → List (List Nat) → Bool
  | [], [] => true
  | [], _ :: _ => false
  | m :: l, k => match strikeL m k with | some k' => sameT l k' | none => false
theorem eqL_eq : ∀ {a b : List Nat}, eqL a b = true → a = b
  | [], [], _ => rfl
  | x :: a, y :: b, h => by
    unfold eqL at h
    split at h
    · rename_i e; rw [Nat.eq_of_beq_eq_true e, eqL_eq h]
    · cases h
  | [], _ :: _, h => by cases h
  | _ :: _, [], h => by cases h
namespace Cr
variable {R : Type} [Cr R]
theorem mono_ins (ρ : Nat → R) (x : Nat) : ∀ l, mono ρ (insN x l) = ρ x * mono ρ l
  | [] => rfl
  | y :: l => by
    unfold insN
    split
    · rfl
    · show ρ y * mono ρ (insN x l) = ρ x * (ρ y * mono ρ l)
      rw [mono_ins ρ x l, mul_left_comm]
theorem mono_mrg (ρ : Nat → R) (b : List Nat) : ∀ a, mono ρ (mrg a b) = mono ρ a * mono ρ b
  | [] => (one_mul _).symm
  | x :: a => by
    show mono ρ (insN x (mrg a b)) = ρ x * mono ρ a * mono ρ b
    rw [mono_ins, mono_mrg ρ b a, mul_assoc]
theorem tot_app (ρ : Nat → R) (b : List (List Nat)) : ∀ a, tot ρ (a ++ b) = tot ρ a + tot ρ b
  | [] => (zero_add _).symm
  | x :: a => by
    show mono ρ x + tot ρ (a ++ b) = mono ρ x + tot ρ a + tot ρ b
    rw [tot_app ρ b a, add_assoc]
theorem tot_mul1 (ρ : Nat → R) (m : List Nat) : ∀ l, tot ρ (mul1 m l) = mono ρ m * tot ρ l
  | [] => (mul_zero _).symm
  | k :: l => by
    show mono ρ (mrg m k) + tot ρ (mul1 m l) = mono ρ m * (mono ρ k + tot ρ l)
    rw [mono_mrg, tot_mul1 ρ m l, mul_add]
theorem tot_mulT (ρ : Nat → R) (k : List (List Nat)) : ∀ l, tot ρ (mulT l k) = tot ρ l * tot ρ k
  | [] => (zero_mul _).symm
  | m :: l => by
    show tot ρ (mul1 m k ++ mulT l k) = (mono ρ m + tot ρ l) * tot ρ k
    rw [tot_app, tot_mul1, tot_mulT ρ k l, add_mul]
theorem tot_strike (ρ : Nat → R) {m : List Nat} : ∀ {l l' : List (List Nat)}, strikeL m l = some l' → tot ρ l = mono ρ m + tot ρ l'
  | [], _, h => by cases h
  | k :: l, l', h => by
    unfold strikeL at h
    split at h
    · rename_i e
      cases h
      rw [eqL_eq e]; rfl
    · split at h
      · rename_i l2 e2
        cases h
        show mono ρ k + tot ρ l = mono ρ m + (mono ρ k + tot ρ l2)
        rw [tot_strike ρ e2, add_left_comm]
      · cases h
theorem tot_same (ρ : Nat → R) : ∀ {a b : List (List Nat)}, sameT a b = true → tot ρ a = tot ρ b
  | [], [], _ => rfl
  | [], _ :: _, h => by cases h
  | m :: l, k, h => by
    unfold sameT at h
    split at h
    · rename_i k' e
      rw [tot_strike ρ e, ← tot_same ρ h]; rfl
    · cases h
instance : Std.Associative (α := R) (· + ·) := ⟨add_assoc⟩
instance : Std.Commutative (α := R) (· + ·) := ⟨add_comm⟩
theorem swap4 (a b c d : R) : a + b + (c + d) = a + c + (b + d) := by rw [add_assoc, add_assoc, add_left_comm b]
theorem ev_expd (ρ : Nat → R) : ∀ e, ev ρ e + tot ρ (expd e).2 = tot ρ (expd e).1
  | .v n => by
    show ρ n + 0 = ρ n * 1 + 0
    rw [mul_one]
  | .zero => add_zero _
  | .one => rfl
  | .add a b => by
    show ev ρ a + ev ρ b + tot ρ ((expd a).2 ++ (expd b).2) = tot ρ ((expd a).1 ++ (expd b).1)
    rw [tot_app, tot_app, ← ev_expd ρ a, ← ev_expd ρ b, swap4]
  | .neg a => by
    show -ev ρ a + tot ρ (expd a).1 = tot ρ (expd a).2
    rw [← ev_expd ρ a, ← add_assoc, add_comm (-ev ρ a), add_neg, zero_add]
  | .sub a b => by
    show ev ρ a - ev ρ b + tot ρ ((expd a).2 ++ (expd b).1) = tot ρ ((expd a).1 ++ (expd b).2)
    rw [tot_app, tot_app, ← ev_expd ρ a, ← ev_expd ρ b, sub_eq, swap4, ← add_assoc (-ev ρ b), add_comm (-ev ρ b), add_neg, zero_add]
  | .mul a b => by
    show ev ρ a * ev ρ b + tot ρ (mulT (expd a).1 (expd b).2 ++ mulT (expd a).2 (expd b).1) = tot ρ (mulT (expd a).1 (expd b).1 ++ mulT (expd a).2 (expd b).2)
    rw [tot_app, tot_app, tot_mulT, tot_mulT, tot_mulT, tot_mulT, ← ev_expd ρ a, ← ev_expd ρ b]
    generalize ev ρ a = x
    generalize ev ρ b = y
    generalize tot ρ (expd a).2 = s
    generalize tot ρ (expd b).2 = t
    simp only [mul_add, add_mul]
    ac_rfl
/-- two expressions with the same monomials have the same value -/
theorem sound (ρ : Nat → R) (s t : Rx) (h : sameT ((expd s).1 ++ (expd t).2) ((expd t).1 ++ (expd s).2) = true) : ev ρ s = ev ρ t := by
  have e := tot_same ρ h
  rw [tot_app, tot_app, ← ev_expd ρ s, ← ev_expd ρ t] at e
  refine add_cancel (c := tot ρ (expd s).2 + tot ρ (expd t).2) ?_
  rw [← add_assoc, e, add_assoc, add_comm (tot ρ (expd t).2)]
def rho (l : List R) (n : Nat) : R := l.getD n 0
theorem id1 (a : R) (s t : Rx → Rx) (h : sameT ((expd (s (.v 0))).1 ++ (expd (t (.v 0))).2) ((expd (t (.v 0))).1 ++ (expd (s (.v 0))).2) = true) : ev (rho [a]) (s (.v 0)) = ev (rho [a]) (t (.v 0)) := sound _ _ _ h
theorem id2 (a b : R) (s t : Rx → Rx → Rx) (h : sameT ((expd (s (.v 0) (.v 1))).1 ++ (expd (t (.v 0) (.v 1))).2) ((expd (t (.v 0) (.v 1))).1 ++ (expd (s (.v 0) (.v 1))).2) = true) : ev (rho [a, b]) (s (.v 0) (.v 1)) = ev (rho [a, b]) (t (.v 0) (.v 1)) := sound _ _ _ h
theorem id3 (a b c : R) (s t : Rx → Rx → Rx → Rx) (h : sameT ((expd (s (.v 0) (.v 1) (.v 2))).1 ++ (expd (t (.v 0) (.v 1) (.v 2))).2) ((expd (t (.v 0) (.v 1) (.v 2))).1 ++ (expd (s (.v 0) (.v 1) (.v 2))).2) = true) :
    ev (rho [a, b, c]) (s (.v 0) (.v 1) (.v 2)) = ev (rho [a, b, c]) (t (.v 0) (.v 1) (.v 2)) := sound _ _ _ h
theorem id4 (a b c d : R) (s t : Rx → Rx → Rx → Rx → Rx) (h : sameT ((expd (s (.v 0) (.v 1) (.v 2) (.v 3))).1 ++ (expd (t (.v 0) (.v 1) (.v 2) (.v 3))).2) ((expd (t (.v 0) (.v 1) (.v 2) (.v 3))).1 ++ (expd (s (.v 0) (.v 1) (.v 2) (.v 3))).2) = true) :
    ev (rho [a, b, c, d]) (s (.v 0) (.v 1) (.v 2) (.v 3)) = ev (rho [a, b, c, d]) (t (.v 0) (.v 1) (.v 2) (.v 3)) := sound _ _ _ h
theorem id5 (a b c d e : R) (s t : Rx → Rx → Rx → Rx → Rx → Rx) (h : sameT ((expd (s (.v 0) (.v 1) (.v 2) (.v 3) (.v 4))).1 ++ (expd (t (.v 0) (.v 1) (.v 2) (.v 3) (.v 4))).2) ((expd (t (.v 0) (.v 1) (.v 2) (.v 3) (.v 4))).1 ++ (expd (s (.v 0) (.v 1) (.v 2) (.v 3) (.v 4))).2) = true) :
    ev (rho [a, b, c, d, e]) (s (.v 0) (.v 1) (.v 2) (.v 3) (.v 4)) = ev (rho [a, b, c, d, e]) (t (.v 0) (.v 1) (.v 2) (.v 3) (.v 4)) := sound _ _ _ h
theorem id6 (a b c d e f : R) (s t : Rx → Rx → Rx → Rx → Rx → Rx → Rx) (h : sameT ((expd (s (.v 0) (.v 1) (.v 2) (.v 3) (.v 4) (.v 5))).1 ++ (expd (t (.v 0) (.v 1) (.v 2) (.v 3) (.v 4) (.v 5))).2) ((expd (t (.v 0) (.v 1) (.v 2) (.v 3) (.v 4) (.v 5))).1 ++ (expd (s (.v 0) (.v 1) (.v 2) (.v 3) (.v 4) (.v 5))).2) = true) :
    ev (rho [a, b, c, d, e, f]) (s (.v 0) (.v 1) (.v 2) (.v 3) (.v 4) (.v 5)) = ev (rho [a, b, c, d, e, f]) (t (.v 0) (.v 1) (.v 2) (.v 3) (.v 4) (.v 5)) := sound _ _ _ h

theorem sub_self (a : R) : a - a = 0 := id1 a (fun a => a - a) (fun _ => 0) rfl
theorem test (u f v g q : R) : (u - v * q) * g + v * (q * g + f) = u * g + v * f := id5 u f v g q (fun u f v g q => (u - v * q) * g + v * (q * g + f)) (fun u f v g _ => u * g + v * f) rfl
theorem eq_of_sub {a b : R} (h : a - b = 0) : a = b := by
  have : a = a - b + b := id2 a b (fun a _ => a) (fun a b => a - b + b) rfl
  rw [this, h, zero_add]

/-- powers -/
def pw (x : R) : Nat → R
  | 0 => 1
  | n + 1 => pw x n * x
theorem pw_add (x : R) (m : Nat) : ∀ n, pw x (m + n) = pw x m * pw x n
  | 0 => (mul_one _).symm
  | n + 1 => by
    show pw x (m + n) * x = pw x m * (pw x n * x)
    rw [pw_add x m n, mul_assoc]
theorem mul_pw (x y : R) : ∀ n, pw (x * y) n = pw x n * pw y n
  | 0 => (mul_one _).symm
  | n + 1 => by
    show pw (x * y) n * (x * y) = pw x n * x * (pw y n * y)
    rw [mul_pw x y n]
    exact id4 x y (pw x n) (pw y n) (fun x y a b => a * b * (x * y)) (fun x y a b => a * x * (b * y)) rfl
theorem pw_mul (x : R) (m : Nat) : ∀ n, pw x (m * n) = pw (pw x m) n
  | 0 => rfl
  | n + 1 => by
    rw [Nat.mul_succ, pw_add, pw_mul x m n]; rfl
theorem one_pw : ∀ n, pw (1 : R) n = 1
  | 0 => rfl
  | n + 1 => by show pw (1 : R) n * 1 = 1; rw [mul_one, one_pw n]

/-! ### divisors -/
instance : Dvd R := ⟨fun a b => ∃ c, b = a * c⟩
theorem dvd_refl (a : R) : a ∣ a := ⟨1, (mul_one a).symm⟩
theorem dvd_trans {a b c : R} (h : a ∣ b) (k : b ∣ c) : a ∣ c := by
  obtain ⟨x, rfl⟩ := h
  obtain ⟨y, rfl⟩ := k
  exact ⟨x * y, mul_assoc _ _ _⟩
theorem dvd_zero (a : R) : a ∣ 0 := ⟨0, (mul_zero a).symm⟩
theorem dvd_mul_right {a b : R} (c : R) (h : a ∣ b) : a ∣ b * c := by
  obtain ⟨x, rfl⟩ := h
  exact ⟨x * c, mul_assoc _ _ _⟩
theorem dvd_mul_left {a b : R} (c : R) (h : a ∣ b) : a ∣ c * b := by rw [mul_comm]; exact dvd_mul_right c h
theorem dvd_add {a b c : R} (h : a ∣ b) (k : a ∣ c) : a ∣ b + c := by
  obtain ⟨x, rfl⟩ := h
  obtain ⟨y, rfl⟩ := k
  exact ⟨x + y, (mul_add _ _ _).symm⟩
theorem dvd_neg {a b : R} (h : a ∣ b) : a ∣ -b := by
  obtain ⟨x, rfl⟩ := h
  exact ⟨-x, id2 a x (fun a x => -(a * x)) (fun a x => a * -x) rfl⟩
theorem dvd_sub {a b c : R} (h : a ∣ b) (k : a ∣ c) : a ∣ b - c := by rw [sub_eq]; exact dvd_add h (dvd_neg k)
end Cr
end Go.Vc
