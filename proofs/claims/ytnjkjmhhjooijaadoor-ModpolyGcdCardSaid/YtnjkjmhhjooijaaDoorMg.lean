/- modular.Inverse. -/
import Derived.Test.YtnjkjmhhjooijaaDoorMf
import Derived.Test.YtnjkjmhhjooijaaDoorMq
namespace Go.Vc
open Go.Proofs

theorem nat_i64 {n : Nat} (h : n ≤ 4294967296) : -9223372036854775808 ≤ (n : Int) ∧ (n : Int) ≤ 9223372036854775807 := by omega
/-- X with a sign -/
def sg (b : Bool) (X : Nat) : Int := if b then (X : Int) else -(X : Int)
structure InvSt where
  r : Nat
  s : Nat
  X : Nat
  Y : Nat
  b : Bool
structure InvI (a m : Nat) (t : InvSt) : Prop where
  sum : t.X * t.s + t.Y * t.r = m
  xm : t.X ≤ m
  ym : t.Y ≤ m
  rm : t.r ≤ m
  sm : t.s ≤ m
  xr : ∃ k : Int, sg t.b t.X * a = t.r + m * k
  ys : ∃ k : Int, sg (!t.b) t.Y * a = t.s + m * k
  gcd : Nat.gcd t.r t.s = Nat.gcd a m

theorem InvI.step {a m : Nat} {t : InvSt} (i : InvI a m t) (hs : t.s ≠ 0) : InvI a m ⟨t.s, t.r % t.s, t.Y, t.X + t.r / t.s * t.Y, !t.b⟩ := by
  obtain ⟨r, s, X, Y, b⟩ := t
  obtain ⟨h1, h2, h3, h4, h5, ⟨k, hk⟩, ⟨l, hl⟩, hg⟩ := i
  dsimp only at *
  have hdm := Nat.div_add_mod r s
  have hlt := Nat.mod_lt r (by omega : 0 < s)
  have hle := Nat.mod_le r s
  have hsum : Y * (r % s) + (X + r / s * Y) * s = m := by
    rw [Nat.add_mul, ← h1]
    have e1 : r / s * Y * s = Y * (s * (r / s)) := by
      rw [Nat.mul_comm (r / s) Y, Nat.mul_assoc, Nat.mul_comm (r / s) s]
    have e2 : Y * r = Y * (s * (r / s)) + Y * (r % s) := by rw [← Nat.mul_add, hdm]
    omega
  refine ⟨hsum, h3, ?_, h5, Nat.le_trans hle h4, ⟨l, hl⟩, ⟨k - (r / s : Nat) * l, ?_⟩, ?_⟩
  · have h6 : (X + r / s * Y) * 1 ≤ (X + r / s * Y) * s := Nat.mul_le_mul_left _ (by omega)
    dsimp only; omega
  · dsimp only
    have hr : (r : Int) = s * (r / s : Nat) + (r % s : Nat) := by exact_mod_cast hdm.symm
    have e : ∀ q : Nat, sg (!!b) (X + q * Y) = sg b X - (q : Int) * sg (!b) Y := fun q => by
      unfold sg
      cases b
      · simp only [Bool.not_false, Bool.not_true, if_true, Bool.false_eq_true, if_false, Int.natCast_add, Int.natCast_mul]; omega
      · simp only [Bool.not_false, Bool.not_true, if_true, Bool.false_eq_true, if_false, Int.natCast_add, Int.natCast_mul, Int.mul_neg]; omega
    rw [e, Int.sub_mul, hk, Int.mul_assoc, hl, Int.mul_sub, Int.mul_add]
    generalize ((r / s : Nat) : Int) = q at *
    rw [Int.mul_left_comm (m : Int) q l, Int.mul_comm q (s : Int)]
    omega
  · dsimp only
    rw [← hg, Nat.gcd_comm s, ← Nat.gcd_rec, Nat.gcd_comm]

set_option maxHeartbeats 800000 in
theorem modInverse_any (h : Heap) (a m : Nat) (ha : a < 4294967296) (hm0 : 2 ≤ m) (hm : m < 4294967296) (hx : ∃ x, a * x % m = 1) :
    Spec E.P f_modular_Inverse #[vnum .u32 a, vnum .u32 m] h (fun v' h' => h' = h ∧ v' = .tuple #[vnum .u32 (invM a m), .int .i64 0]) := by
  refine Spec.intro hE (args := [_, _]) F_modular_Inverse rfl rfl (Nat.le_of_ble_eq_true rfl) ?_
  have hmx : mx m = m := by unfold mx; omega
  refine (modulus_any h m hm).mono ?_
  rintro _ h ⟨rfl, rfl⟩
  rw [hmx]
  refine DWrap.is (m : Int) rfl (by omega) ?_
  refine DWrap.is (a : Int) rfl (by omega) ?_
  refine ⟨by omega, ?_⟩
  rw [tmod_nat]
  have hlt := Nat.mod_lt a (by omega : 0 < m)
  have hdm := Nat.div_add_mod a m
  refine DLoop.intro hE (ι := InvSt) (fun t => [(6, .int .i64 (m : Int)), (7, .int .i64 (t.r : Int)), (8, .int .i64 (t.s : Int)), (9, .int .i64 (sg t.b t.X)), (10, .int .i64 (sg (!t.b) t.Y))]) (fun t h' => h' = h ∧ InvI a m t) (fun t => t.s) ⟨a % m, m, 1, 0, true⟩ rfl ⟨rfl, rfl, rfl, rfl, rfl, trivial⟩
    ⟨rfl, ⟨by dsimp only; omega, by dsimp only; omega, by dsimp only; omega, by dsimp only; omega, Nat.le_refl _, ⟨(a / m : Nat), ?_⟩, ⟨-1, ?_⟩, ?_⟩⟩ ?_
  · dsimp only [sg]; rw [if_pos rfl]
    have : ((m * (a / m) + a % m : Nat) : Int) = a := by rw [hdm]
    rw [Int.natCast_add, Int.natCast_mul] at this
    omega
  · simp [sg]; omega
  · dsimp only
    rw [Nat.gcd_comm a m, Nat.gcd_rec m a]
  rintro ⟨r, s, X, Y, b⟩ h' ⟨rfl, hi⟩
  have hst := hi.step
  have b1 := hi.xm
  have b2 := hi.ym
  have b3 := hi.rm
  have b4 := hi.sm
  dsimp only at hst b1 b2 b3 b4 ⊢
  refine bsp.intro (b := ((s : Int) != 0)) (fun hne => ?_) (fun he => ?_)
  · have hs : s ≠ 0 := by simpa using hne
    have hs' := hst hs
    have c2 := hs'.ym
    have c3 := hs'.sm
    dsimp only at c2 c3
    have hdm2 := Nat.div_add_mod r s
    have hql : r / s ≤ r := Nat.div_le_self r s
    refine ⟨by omega, ?_⟩
    refine DWrap.is ((r / s : Nat) : Int) (by rw [Int.tdiv_eq_ediv_of_nonneg (by omega)]; exact (Int.natCast_ediv r s).symm) (nat_i64 (Nat.le_trans hql (by omega))) ?_
    have hqs : r / s * s ≤ r := Nat.div_mul_le_self r s
    refine DWrap.is ((r / s * s : Nat) : Int) (by rw [Int.natCast_mul]) (by omega) ?_
    refine DWrap.is ((r % s : Nat) : Int) (by rw [Nat.mul_comm] at hdm2; omega) (by omega) ?_
    have hqy : (r / s : Nat) * sg (!b) Y = sg (!b) (r / s * Y) := by
      unfold sg; cases b
      · simp only [Bool.not_false, if_true, Int.natCast_mul]
      · simp only [Bool.not_true, Bool.false_eq_true, if_false, Int.natCast_mul, Int.mul_neg]
    obtain ⟨Z, hZ⟩ : ∃ Z, Z = r / s * Y := ⟨_, rfl⟩
    have hs2 := hs'
    rw [← hZ] at hqy c2 hs2
    refine DWrap.is (sg (!b) Z) hqy (by unfold sg; split <;> omega) ?_
    have hnx : sg b X - sg (!b) Z = sg (!!b) (X + Z) := by
      unfold sg; cases b
      · simp only [Bool.not_false, Bool.not_true, if_true, Bool.false_eq_true, if_false, Int.natCast_add]; omega
      · simp only [Bool.not_false, Bool.not_true, if_true, Bool.false_eq_true, if_false, Int.natCast_add]; omega
    refine DWrap.is (sg (!!b) (X + Z)) hnx (by unfold sg; split <;> omega) ?_
    exact ⟨⟨s, r % s, Y, X + Z, !b⟩, ⟨rfl, rfl, rfl, rfl, rfl, trivial⟩, ⟨rfl, hs2⟩, Nat.mod_lt _ (by omega)⟩
  · have hs : s = 0 := by simpa using he
    subst hs
    have hg := hi.gcd
    dsimp only at hg
    rw [Nat.gcd_zero_right] at hg
    have hg1 : Nat.gcd a m = 1 := by
      obtain ⟨x, hx⟩ := hx
      have h1 : Nat.gcd a m ∣ a * x := Nat.dvd_trans (Nat.gcd_dvd_left a m) (Nat.dvd_mul_right a x)
      have h2 : Nat.gcd a m ∣ a * x % m := (Nat.dvd_mod_iff (Nat.gcd_dvd_right a m)).2 h1
      rw [hx] at h2
      exact Nat.dvd_one.1 h2
    rw [hg1] at hg
    subst hg
    refine ⟨by omega, ?_⟩
    have hb1 : -(m : Int) < (sg b X).tmod m := by
      have := Int.lt_tmod_of_pos (sg b X) (b := (m : Int)) (by omega); omega
    have hb2 : (sg b X).tmod m < m := Int.tmod_lt_of_pos _ (by omega)
    refine DWrap.is ((sg b X).tmod m + m) rfl (by omega) ?_
    refine ⟨by omega, ?_⟩
    have e1 : Int.tmod ((sg b X).tmod m + m) m = (((sg b X) % (m : Int)).toNat : Int) := by
      rw [Int.tmod_eq_emod_of_nonneg (by omega), Int.add_emod_right, Int.toNat_of_nonneg (Int.emod_nonneg _ (by omega))]
      have := Int.tmod_add_mul_tdiv (sg b X) m
      rw [← this, Int.add_mul_emod_self_left]
      rw [this]
    have hy := Int.emod_lt_of_pos (sg b X) (show (0 : Int) < m by omega)
    have hy0 := Int.emod_nonneg (sg b X) (show (m : Int) ≠ 0 by omega)
    rw [e1]
    refine DWrap.eq (m := (((sg b X) % (m : Int)).toNat : Int)) (by rw [IntKind.wrap_u32']; omega) ?_
    refine ⟨rfl, ?_⟩
    have hfin : invM a m = ((sg b X) % (m : Int)).toNat := by
      refine (invM_eq (by omega) ?_).1
      obtain ⟨k, hk⟩ := hi.xr
      dsimp only at hk
      have hdm3 := Int.emod_add_mul_ediv (sg b X) m
      have e3 : ((((sg b X) % (m : Int)).toNat : Nat) : Int) = (sg b X) % (m : Int) := Int.toNat_of_nonneg hy0
      have e4 : (((a * ((sg b X) % (m : Int)).toNat % m : Nat)) : Int) = 1 := by
        rw [Int.natCast_emod, Int.natCast_mul, e3]
        have e5 : (a : Int) * ((sg b X) % (m : Int)) = 1 + m * (k - (sg b X) / (m : Int) * a) := by
          have : (sg b X) % (m : Int) = sg b X - m * ((sg b X) / (m : Int)) := by omega
          rw [this, Int.mul_sub, Int.mul_comm (a : Int) (sg b X), hk, Int.mul_sub, Int.mul_comm (a : Int) _, Int.mul_assoc]
          simp only [Int.natCast_one]; omega
        rw [e5, Int.add_mul_emod_self_left]
        exact Int.emod_eq_of_lt (by decide) (by omega)
      exact_mod_cast e4
    rw [hfin]
end Go.Vc
