/- Division of integers by integers of one digit. -/
import Derived.Test.YtjjcncedfphnhaaDv
import Derived.Test.YtjjcncedfphnhaaRef
import Derived.Test.YtjjcncedfphnhaaVal
import Derived.Test.YtjjcncedfphnhaaVf
namespace Go.Vc
open Go.Proofs

theorem divide_small (h : Heap) (v1 v2 : Value) (a b : Nat) (ha : NatAt h v1 a) (hb : NatAt h v2 b) (hla : (digs a).length < 10000000) (hb0 : 0 < b) (hb1 : b < 4294967296) :
    Spec E.P f_division_divide #[v1, v2] h (fun v' h' => Ext h h' ∧ ∃ q r, v' = .tuple #[q, r] ∧ NatAt h' q (a / b) ∧ NatAt h' r (a % b)) := by
  have hdb := digs_small hb1 (by omega)
  refine Spec.intro hE (args := [_, _]) F_division_divide rfl rfl (Nat.le_of_ble_eq_true rfl) ?_
  refine (natural_Normal_any h v2 (digs b) hb (digs_dg b) (by rw [hdb]; simp)).mono ?_
  rintro w2 h1 ⟨hx1, hw2⟩
  rw [dval_digs] at hw2
  have ha1 := ha.ext hx1
  refine (Cmp_any h1 v1 w2 (digs a) (digs b) ha1 hw2 (digs_dg a) (digs_dg b) (by omega) (by rw [hdb]; simp)).mono ?_
  rintro _ h1 ⟨rfl, rfl⟩
  rw [dval_digs, dval_digs]
  refine bsp.dec (p := cmpN a b < 0) (fun hlt => ?_) (fun hge => ?_)
  · have hab : a < b := by unfold cmpN at hlt; repeat' split at hlt <;> omega
    refine (natural_Normal_any h1 v1 (digs a) ha1 (digs_dg a) (by omega)).mono ?_
    rintro w3 h3 ⟨hx3, hw3⟩
    rw [dval_digs] at hw3
    refine ⟨hx1.trans hx3, .slice none 0 0, w3, rfl, ?_, by rw [Nat.mod_eq_of_lt hab]; exact hw3⟩
    rw [Nat.div_eq_of_lt hab]
    unfold NatAt; rw [digs_zero]
    exact ⟨none, 0, rfl, Nat.le_refl _, fun hne => absurd rfl hne⟩
  · have hw20 := hw2
    unfold NatAt at hw2
    rw [hdb] at hw2
    obtain ⟨ba, bcap, rfl, hbc, hbA⟩ := hw2
    obtain ⟨bb, bo, rfl, hbcell, -⟩ := hbA (by simp)
    have hc0 := hbcell 0 (by simp)
    refine DIdx.intro 0 rfl rfl (by simp) ?_
    refine DLoad.scalar (v := .int .u32 (b : Nat)) (by simpa using hc0) ?_
    refine (DivSmall_any h1 v1 a b ha1 (by omega) hb0 hb1).mono ?_
    rintro _ h3 ⟨hx3, w3, rfl, hw3⟩
    have hm : a % b < b := Nat.mod_lt _ hb0
    refine DWrap.eq (m := ((a % b : Nat) : Int)) (by rw [IntKind.wrap_u64]; omega) ?_
    refine (natural_Of_any h3 (a % b) (by omega)).mono ?_
    rintro w4 h4 ⟨hx4, hw4⟩
    exact ⟨hx1.trans (hx3.trans hx4), w3, w4, rfl, hw3.ext hx4, hw4⟩

theorem isZero_any (h : Heap) (v : Value) (z : Int) (hv : IntAt h v z) (hl : (digs z.natAbs).length < 1000000000) :
    Spec E.P f_division_isZero #[v] h (fun v' h' => Ext h h' ∧ v' = .bool (decide (z = 0))) := by
  have hv0 := hv
  obtain ⟨a, cap, rfl, -⟩ := hv
  refine Spec.intro hE (args := [_]) F_division_isZero rfl rfl (Nat.le_of_ble_eq_true rfl) ?_
  refine DNew.intro ?_
  intro b h1 hb hx1 hs1 hg1
  have w : Whole h1 b t_integer_Int [_, _] := hg1
  refine DLoad.agg _ rfl w.cellsAt ?_
  refine (Sign_any h1 _ z (hv0.ext hx1) hl).mono ?_
  rintro _ h2 ⟨hx2, rfl⟩
  refine ⟨hx1.trans hx2, ?_⟩
  show Value.bool _ = Value.bool _
  congr 1
  rw [Bool.eq_iff_iff]; simp only [beq_iff_eq, decide_eq_true_eq]
  have := @cmpI_eq_zero z 0
  exact this

set_option maxHeartbeats 1600000 in
theorem Quo_small (h : Heap) (v1 v2 : Value) (x y : Int) (hx : IntAt h v1 x) (hy : IntAt h v2 y) (hla : (digs x.natAbs).length < 10000000) (hy0 : y ≠ 0) (hy1 : y.natAbs < 4294967296) :
    Spec E.P f_division_Quo #[v1, v2] h (fun v' h' => Ext h h' ∧ ∃ q r, v' = .tuple #[q, r, .int .i64 0] ∧ IntAt h' q (sgn (decide (x < 0) != decide (y < 0)) (x.natAbs / y.natAbs)) ∧ IntAt h' r (sgn (decide (x < 0)) (x.natAbs % y.natAbs))) := by
  have hyl : (digs y.natAbs).length ≤ 1 := by rw [digs_small hy1 (by omega)]; simp
  have hy00 := hy
  obtain ⟨a1, cap1, rfl, hn1⟩ := hx
  obtain ⟨a2, cap2, rfl, hn2⟩ := hy
  refine Spec.intro hE (args := [_, _]) F_division_Quo rfl rfl (Nat.le_of_ble_eq_true rfl) ?_
  refine DNew.intro ?_
  intro b1 h1 hb1 hx1 hs1 hg1
  refine DNew.intro ?_
  intro b2 h2 hb2 hx2 hs2 hg2
  refine DNew.intro ?_
  intro qb h3 hqb hx3 hs3 hg3
  refine DNew.intro ?_
  intro rb h4 hrb hx4 hs4 hg4
  have w1 : Whole h4 b1 t_integer_Int [_, _] := hx4.at (hx3.at (hx2.at hg1))
  have w2 : Whole h4 b2 t_integer_Int [_, _] := hx4.at (hx3.at hg2)
  have hx04 : Ext h h4 := hx1.trans (hx2.trans (hx3.trans hx4))
  refine DLoad.agg _ rfl w2.cellsAt ?_
  refine (isZero_any h4 _ y (hy00.ext hx04) (by omega)).mono ?_
  rintro _ h5 ⟨hx45, rfl⟩
  refine bsp.dec (p := y = 0) (fun hbad => absurd hbad hy0) (fun _ => ?_)
  have hx05 := hx04.trans hx45
  refine DLoad.scalar ((w1.ext hx45).get 1 rfl) ?_
  refine DLoad.scalar ((w2.ext hx45).get 1 rfl) ?_
  refine (divide_small h5 _ _ x.natAbs y.natAbs (NatAt.ext hx05 hn1) (NatAt.ext hx05 hn2) hla (by omega) hy1).mono ?_
  rintro _ h6 ⟨hx56, q, r, rfl, hq, hr⟩
  have hx46 := hx45.trans hx56
  have hx06 := hx04.trans hx46
  have w16 := w1.ext hx46
  have w26 := w2.ext hx46
  have hdq : (digs (x.natAbs / y.natAbs)).length < 1000000000 := by
    have h1 : x.natAbs / y.natAbs ≤ x.natAbs := Nat.div_le_self _ _
    rcases Nat.lt_or_ge (digs x.natAbs).length (digs (x.natAbs / y.natAbs)).length with h | h
    · have := digs_len_lt h; omega
    · omega
  have hdr : (digs (x.natAbs % y.natAbs)).length < 1000000000 := by
    have h1 : x.natAbs % y.natAbs < y.natAbs := Nat.mod_lt _ (by omega)
    have := digs_len_le (n := x.natAbs % y.natAbs) (k := 1) (by omega)
    omega
  refine DDraw.cut (ι := Unit) (fun _ => [(4, .pointer (some ⟨qb, 0, none⟩)), (5, .pointer (some ⟨rb, 0, none⟩)), (6, .int .i64 0)])
    (fun _ h' => Ext h h' ∧ IntBox h' qb (sgn (decide (x < 0) != decide (y < 0)) (x.natAbs / y.natAbs)) ∧ IntBox h' rb (sgn (decide (x < 0)) (x.natAbs % y.natAbs))) ?_ ?_
  · have hend : ∀ (h7 h8 : Heap) (vq vr : Value), Ext h6 h7 → Ext h7 h8 → IntAt h7 vq (sgn (decide (x < 0) != decide (y < 0)) (x.natAbs / y.natAbs)) → IntAt h8 vr (sgn (decide (x < 0)) (x.natAbs % y.natAbs)) →
        ∀ K : Heap → Prop, (∀ h10, Ext h h10 ∧ IntBox h10 qb (sgn (decide (x < 0) != decide (y < 0)) (x.natAbs / y.natAbs)) ∧ IntBox h10 rb (sgn (decide (x < 0)) (x.natAbs % y.natAbs)) → K h10) →
        DStore 2 qb 0 vq h8 fun h9 => DStore 2 rb 0 vr h9 K := by
      intro h7 h8 vq vr e67 e78 hvq hvr K hK
      have e48 := hx46.trans (e67.trans e78)
      have hgq : Whole h8 qb t_integer_Int [.bool false, .slice none 0 0] := e48.at (hx4.at hg3)
      have hgr : Whole h8 rb t_integer_Int [.bool false, .slice none 0 0] := e48.at hg4
      have z1 := hx1.size
      have z2 := hx2.size
      have z3 := hx3.size
      refine DStore.intBox hgq rfl (hvq.ext e78) ?_
      intro o9 h9 hu9 hv9 hbq
      have hgr9 : Whole h9 rb t_integer_Int [.bool false, .slice none 0 0] := hu9.at_ne hgr (by omega)
      refine DStore.intBox hgr9 rfl (hvr.u32 hv9) ?_
      intro o10 h10 hu10 hv10 hbr
      apply hK
      refine ⟨(((Old.rfl (B := h.size)).ext (hx06.trans (e67.trans e78)) (Nat.le_refl _)).upd hu9 (by omega)).upd hu10 (by omega) |>.toExt, ?_, hbr⟩
      obtain ⟨c1, c2, hw, hi⟩ := hbq
      exact ⟨c1, c2, hu10.at_ne hw (by omega), hi.u32 hv10⟩
    refine DDraw.intro hE (.take 0 (.take 2 (.take 5 (.take 7 (.take 9 (.take 1 (.take 3 (.take 4 (.two 6 8 (.one 8 (.one 10 (.one 11 (.one 12 (.take 13 .done))))) (.one 6 (.one 10 (.one 11 (.one 12 (.take 13 .done)))))))))))))) (some 11) (Ext h6 ·) (by kernel_rfl) Ext.rfl ?_
    refine QLoad.scalar (fun _ e => (w16.ext e).get 0 rfl) ?_
    refine QLoad.scalar (fun _ e => (w26.ext e).get 0 rfl) ?_
    refine ⟨?_, ?_⟩
    · refine (From_any h6 _ _ _ hq hdq).mono ?_
      rintro vq h7 ⟨e7, hvq⟩
      refine ⟨e7, ?_⟩
      refine DLoad.scalar ((w16.ext e7).get 0 rfl) ?_
      refine ⟨e7, ?_⟩
      refine (From_any h7 _ _ _ (hr.ext e7) hdr).mono ?_
      rintro vr h8 ⟨e8, hvr⟩
      refine ⟨e7.trans e8, ?_⟩
      refine hend h7 h8 vq vr e7 e8 hvq hvr _ ?_
      intro h10 hh
      exact ⟨(), ⟨rfl, rfl, rfl, trivial⟩, hh⟩
    · refine DLoad.scalar (w16.get 0 rfl) ?_
      refine ⟨Ext.rfl, ?_⟩
      refine (From_any h6 _ _ _ hq hdq).mono ?_
      rintro vq h7 ⟨e7, hvq⟩
      refine ⟨e7, ?_⟩
      refine (From_any h7 _ _ _ (hr.ext e7) hdr).mono ?_
      rintro vr h8 ⟨e8, hvr⟩
      refine ⟨e7.trans e8, ?_⟩
      refine hend h7 h8 vq vr e7 e8 hvq hvr _ ?_
      intro h10 hh
      exact ⟨(), ⟨rfl, rfl, rfl, trivial⟩, hh⟩
  · rintro _ h7 ⟨hx7, hbq, hbr⟩
    refine DLoad.intBox hbq fun vq hvq => ?_
    refine DLoad.intBox hbr fun vr hvr => ?_
    exact ⟨hx7, vq, vr, rfl, hvq, hvr⟩
end Go.Vc
