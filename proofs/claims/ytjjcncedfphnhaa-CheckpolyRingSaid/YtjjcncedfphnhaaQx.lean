/- Exact division of integers, of terms; the ranges of the exponents. -/
import Derived.Test.YtjjcncedfphnhaaDq
namespace Go.Vc
open Go.Proofs

theorem IntAt.zero (h : Heap) : IntAt h (.agg #[.bool false, .slice none 0 0]) 0 := by
  refine ⟨none, 0, ?_, ?_⟩
  · simp [digs_zero]
  · unfold NatAt
    show Nums _ _ _ (digs 0)
    rw [digs_zero]; exact ⟨none, 0, by simp [digs_zero], Nat.le_refl _, fun hne => absurd rfl hne⟩

/-- what division.Exact answers -/
def ExactI (x y : Int) (z e : Int) : Prop := (e = 0 ∧ x = z * y) ∨ (e = 3 ∧ ¬ y ∣ x)

theorem tdiv_of (x y : Int) : sgn (decide (x < 0) != decide (y < 0)) (x.natAbs / y.natAbs) * y + sgn (decide (x < 0)) (x.natAbs % y.natAbs) = x := by
  have h := Nat.div_add_mod x.natAbs y.natAbs
  generalize x.natAbs / y.natAbs = q at *
  generalize x.natAbs % y.natAbs = r at *
  have h' : (y.natAbs : Int) * q + r = x.natAbs := by exact_mod_cast h
  unfold sgn
  have key : ∀ a b : Int, a * b = b * a := Int.mul_comm
  by_cases hx : x < 0 <;> by_cases hy : y < 0
  · have e1 : (y.natAbs : Int) = -y := by omega
    have e2 : (x.natAbs : Int) = -x := by omega
    rw [e1, e2] at h'
    simp only [hx, hy, decide_true, bne_self_eq_false, if_true, Bool.false_eq_true, if_false]
    rw [Int.neg_mul, Int.mul_comm] at h'
    omega
  · have e1 : (y.natAbs : Int) = y := by omega
    have e2 : (x.natAbs : Int) = -x := by omega
    rw [e1, e2] at h'
    simp only [hx, hy, decide_true, decide_false, Bool.true_bne, Bool.not_false, if_true]
    rw [Int.neg_mul, Int.mul_comm]
    omega
  · have e1 : (y.natAbs : Int) = -y := by omega
    have e2 : (x.natAbs : Int) = x := by omega
    rw [e1, e2] at h'
    simp only [hx, hy, decide_true, decide_false, Bool.false_bne, if_true, Bool.false_eq_true, if_false]
    rw [Int.neg_mul, Int.mul_comm] at h'
    rw [Int.neg_mul]
    omega
  · have e1 : (y.natAbs : Int) = y := by omega
    have e2 : (x.natAbs : Int) = x := by omega
    rw [e1, e2] at h'
    simp only [hx, hy, decide_false, bne_self_eq_false, Bool.false_eq_true, if_false]
    rw [Int.mul_comm]
    omega

set_option maxHeartbeats 1600000 in
theorem divExact_any (h : Heap) (v1 v2 : Value) (x y : Int) (hx : IntAt h v1 x) (hy : IntAt h v2 y) (hla : (digs x.natAbs).length < 10000000) (hy0 : y ≠ 0) (hy1 : y.natAbs < 4294967296) :
    Spec E.P f_division_Exact #[v1, v2] h (fun v' h' => Ext h h' ∧ ∃ c z e, v' = .tuple #[c, .int .i64 e] ∧ IntAt h' c z ∧ ExactI x y z e) := by
  have hx00 := hx
  have hy00 := hy
  obtain ⟨a1, cap1, rfl, hn1⟩ := hx
  obtain ⟨a2, cap2, rfl, hn2⟩ := hy
  refine Spec.intro hE (args := [_, _]) F_division_Exact rfl rfl (Nat.le_of_ble_eq_true rfl) ?_
  refine DNew.intro ?_
  intro b1 h1 hb1 hx1 hs1 hg1
  refine DNew.intro ?_
  intro b2 h2 hb2 hx2 hs2 hg2
  refine DNew.intro ?_
  intro cb h3 hcb hx3 hs3 hg3
  have w1 : Whole h3 b1 t_integer_Int [_, _] := hx3.at (hx2.at hg1)
  have w2 : Whole h3 b2 t_integer_Int [_, _] := hx3.at hg2
  have hx03 : Ext h h3 := hx1.trans (hx2.trans hx3)
  refine DLoad.agg _ rfl w1.cellsAt ?_
  refine DLoad.agg _ rfl w2.cellsAt ?_
  refine (Quo_small h3 _ _ x y (hx00.ext hx03) (hy00.ext hx03) hla hy0 hy1).mono ?_
  rintro _ h4 ⟨hx4, q, r, rfl, hq, hr⟩
  refine DNew.intro ?_
  intro qb h5 hqb hx5 hs5 hg5
  refine DNew.intro ?_
  intro rb h6 hrb hx6 hs6 hg6
  have z1 := hx1.size
  have z2 := hx2.size
  have z3 := hx3.size
  have z4 := hx4.size
  have hx06 : Ext h h6 := hx03.trans (hx4.trans (hx5.trans hx6))
  have wq6 : Whole h6 qb t_integer_Int [.bool false, .slice none 0 0] := hx6.at hg5
  refine DStore.intBox wq6 rfl (hq.ext (hx5.trans hx6)) ?_
  intro o7 h7 hu7 hv7 hbq
  have wr7 : Whole h7 rb t_integer_Int [.bool false, .slice none 0 0] := hu7.at_ne hg6 (by omega)
  refine DStore.intBox wr7 rfl ((hr.ext (hx5.trans hx6)).u32 hv7) ?_
  intro o8 h8 hu8 hv8 hbr
  have hx08 : Ext h h8 := (((Old.rfl (B := h.size)).ext hx06 (Nat.le_refl _)).upd hu7 (by omega)).upd hu8 (by omega) |>.toExt
  have wc8 : Whole h8 cb t_integer_Int [.bool false, .slice none 0 0] := hu8.at_ne (hu7.at_ne ((hx4.trans (hx5.trans hx6)).at hg3) (by omega)) (by omega)
  have hbq8 : IntBox h8 qb (sgn (decide (x < 0) != decide (y < 0)) (x.natAbs / y.natAbs)) := by
    obtain ⟨c1, c2, hw, hi⟩ := hbq
    exact ⟨c1, c2, hu8.at_ne hw (by omega), hi.u32 hv8⟩
  have htd := tdiv_of x y
  have hrm : (x.natAbs % y.natAbs) < y.natAbs := Nat.mod_lt _ (by omega)
  have hdr : (digs (sgn (decide (x < 0)) (x.natAbs % y.natAbs)).natAbs).length < 1000000000 := by
    rw [sgn_abs]
    have := digs_len_le (n := x.natAbs % y.natAbs) (k := 1) (by omega)
    omega
  have hs0 : (sgn (decide (x < 0)) (x.natAbs % y.natAbs) = 0) ↔ y ∣ x := by
    rw [← Int.natAbs_eq_zero, sgn_abs, ← Nat.dvd_iff_mod_eq_zero, Int.natAbs_dvd_natAbs]
  refine DLoad.intBox hbr fun vr hvr => ?_
  refine (isZero_any h8 vr _ hvr hdr).mono ?_
  rintro _ h9 ⟨hx9, rfl⟩
  have hx09 := hx08.trans hx9
  have wc9 := wc8.ext hx9
  refine bsp.intro (b := !decide (sgn (decide (x < 0)) (x.natAbs % y.natAbs) = 0)) (fun hne => ?_) (fun heq => ?_)
  · refine DPure.build [.bool false, .slice none 0 0] (by kernel_rfl) ?_
    refine DStore.intBox (z := 0) wc9 rfl (IntAt.zero _) ?_
    intro o10 h10 hu10 hv10 hb10
    refine DLoad.intBox hb10 fun vc hvc => ?_
    refine ⟨((Old.rfl (B := h.size)).ext hx09 (Nat.le_refl _)).upd hu10 (by omega) |>.toExt, vc, 0, 3, rfl, hvc, .inr ⟨rfl, ?_⟩⟩
    exact fun hd => by simp [hs0.2 hd] at hne
  · have heq0 : sgn (decide (x < 0)) (x.natAbs % y.natAbs) = 0 := by simpa using heq
    rw [heq0, Int.add_zero] at htd
    refine DLoad.intBox (hbq8.ext hx9) fun vq hvq => ?_
    refine DStore.intBox wc9 rfl hvq ?_
    intro o10 h10 hu10 hv10 hb10
    refine DLoad.intBox hb10 fun vc hvc => ?_
    exact ⟨((Old.rfl (B := h.size)).ext hx09 (Nat.le_refl _)).upd hu10 (by omega) |>.toExt, vc, _, 0, rfl, hvc, .inl ⟨rfl, htd.symm⟩⟩
end Go.Vc
