/- Contracts of the functions on integers. -/
import Derived.Test.YtjjcncedfphnhaaVd
namespace Go.Vc
open Go.Proofs

/-- an integer in canonical form -/
def IntAt (h : Heap) (v : Value) (z : Int) : Prop := ∃ a cap, v = .agg #[.bool (decide (z < 0)), .slice a (digs z.natAbs).length cap] ∧ NatAt h (.slice a (digs z.natAbs).length cap) z.natAbs

theorem IntAt.ext {h h' : Heap} (e : Ext h h') {v : Value} {z : Int} (hn : IntAt h v z) : IntAt h' v z := by
  obtain ⟨a, cap, hv, hs⟩ := hn; exact ⟨a, cap, hv, hs.ext e⟩

def sgn (neg : Bool) (n : Nat) : Int := if neg then -(n : Int) else n

theorem sgn_neg (neg : Bool) (n : Nat) : decide (sgn neg n < 0) = (neg && decide (0 < n)) := by
  unfold sgn; cases neg <;> simp <;> omega
theorem sgn_abs (neg : Bool) (n : Nat) : (sgn neg n).natAbs = n := by
  unfold sgn; cases neg <;> simp
theorem sgn_eq (z : Int) : sgn (decide (z < 0)) z.natAbs = z := by
  unfold sgn; split <;> simp_all <;> omega

theorem digs_len_pos {n : Nat} : 0 < (digs n).length ↔ 0 < n := by
  rw [Nat.pos_iff_ne_zero, Nat.pos_iff_ne_zero, Ne, Ne, List.length_eq_zero_iff, digs_nil]

theorem IntAt.mk {h : Heap} {neg : Bool} {n : Nat} {b : Bool} {v : Value} (hv : NatAt h v n) (hb : b = (neg && decide (0 < n))) : IntAt h (.agg #[.bool b, v]) (sgn neg n) := by
  obtain ⟨a, cap, rfl, hc, hn⟩ := hv
  refine ⟨a, cap, ?_, ?_⟩
  · rw [sgn_neg, sgn_abs, hb]
  · rw [sgn_abs]; exact ⟨a, cap, rfl, hc, hn⟩

theorem signed_any (h : Heap) (neg : Bool) (v : Value) (n : Nat) (hv : NatAt h v n) :
    Spec E.P f_integer_signed #[.bool neg, v] h (fun v' h' => Ext h h' ∧ IntAt h' v' (sgn neg n)) := by
  have hv0 := hv
  obtain ⟨a, cap, rfl, hcap, hn⟩ := hv
  refine Spec.intro hE (args := [_, _]) F_integer_signed rfl rfl (Nat.le_of_ble_eq_true rfl) ?_
  refine DNew.intro ?_
  intro b h1 hb hx hs hg
  cases neg
  · refine DPure.build [.bool false, .slice a (digs n).length cap] (by kernel_rfl) ?_
    refine DStore.full (vs := [.bool false, .slice a (digs n).length cap]) hg rfl rfl rfl rfl ?_
    intro h2 hu
    have hx2 : Ext h h2 := ((Old.rfl (B := h.size).ext hx (Nat.le_refl _)).upd hu (by omega)).toExt
    refine DLoad.whole _ hu.at_ rfl ⟨hx2, ?_⟩
    exact IntAt.mk (hv0.ext hx2) rfl
  · refine DPure.build [.bool (decide ((0 : Int) < (digs n).length)), .slice a (digs n).length cap] (by kernel_rfl) ?_
    refine DStore.full (vs := [.bool (decide ((0 : Int) < (digs n).length)), .slice a (digs n).length cap]) hg rfl rfl rfl rfl ?_
    intro h2 hu
    have hx2 : Ext h h2 := ((Old.rfl (B := h.size).ext hx (Nat.le_refl _)).upd hu (by omega)).toExt
    refine DLoad.whole _ hu.at_ rfl ⟨hx2, ?_⟩
    refine IntAt.mk (hv0.ext hx2) ?_
    have := @digs_len_pos n
    rw [Bool.eq_iff_iff]; simp only [Bool.true_and, decide_eq_true_eq]; omega

theorem IntAt.u32 {h h' : Heap} (x : U32 h h') {v : Value} {z : Int} (hn : IntAt h v z) : IntAt h' v z := by
  obtain ⟨a, cap, hv, hs⟩ := hn; exact ⟨a, cap, hv, hs.u32 x⟩

/-- the last store into the box of the result -/
theorem DStore.result {b : Nat} {h h0 : Heap} {K : Heap → Prop} {z : Int} {c : List Value} {e : TypeId} {c1 c2 : Value} (hb : h[b]? = some (.cells c.toArray e (0, 0))) (he : e ≠ t_uint32) (hl : c.length = 2) (ho : [c1, c2].all Value.oneCell' = true) (hx : Ext h0 h) (hB : h0.size ≤ b)
    (hz : IntAt h (.agg #[c1, c2]) z) (hK : ∀ h', Ext h0 h' → IntAt h' (.agg #[c1, c2]) z → Whole h' b e [c1, c2] → K h') : DStore 2 b 0 (.agg #[c1, c2]) h K := by
  refine DStore.full (vs := [c1, c2]) hb rfl rfl hl ho ?_
  intro h' hu
  exact hK h' ((Old.rfl (B := h0.size).ext hx (Nat.le_refl _)).upd hu hB).toExt (hz.u32 (hu.u32 hb he)) hu.at_

theorem From_any (h : Heap) (neg : Bool) (v : Value) (n : Nat) (hv : NatAt h v n) (hl : (digs n).length < 1000000000) :
    Spec E.P f_integer_From #[.bool neg, v] h (fun v' h' => Ext h h' ∧ IntAt h' v' (sgn neg n)) := by
  refine Spec.intro hE (args := [_, _]) F_integer_From rfl rfl (Nat.le_of_ble_eq_true rfl) ?_
  refine DNew.intro ?_
  intro b h1 hb hx hs hg
  refine (natural_Normal_any h1 v (digs n) (hv.ext hx) (digs_dg n) hl).mono ?_
  rintro v2 h2 ⟨hx2, hv2⟩
  rw [dval_digs] at hv2
  refine (signed_any h2 neg v2 n hv2).mono ?_
  rintro v3 h3 ⟨hx3, hi⟩
  have hi0 := hi
  obtain ⟨a, cap, rfl, -⟩ := hi
  refine DStore.result (hx3.at (hx2.at hg)) (by decide) rfl rfl (hx.trans (hx2.trans hx3)) (by omega) hi0 ?_
  intro h4 hx4 hi4 hw
  exact DLoad.whole _ hw rfl ⟨hx4, hi4⟩

theorem integer_Normal_any (h : Heap) (v : Value) (z : Int) (hv : IntAt h v z) (hl : (digs z.natAbs).length < 1000000000) :
    Spec E.P f_integer_Normal #[v] h (fun v' h' => Ext h h' ∧ IntAt h' v' z) := by
  obtain ⟨a, cap, rfl, hn⟩ := hv
  refine Spec.intro hE (args := [_]) F_integer_Normal rfl rfl (Nat.le_of_ble_eq_true rfl) ?_
  refine DNew.intro ?_
  intro b0 h1 hb0 hx1 hs1 hg1
  refine DNew.intro ?_
  intro b h2 hb hx2 hs2 hg2
  have w0 : Whole h1 b0 t_integer_Int [_, _] := hg1
  have w := w0.ext hx2
  refine DLoad.scalar (w.get 0 rfl) ?_
  refine DLoad.scalar (w.get 1 rfl) ?_
  refine (From_any h2 _ _ z.natAbs (hn.ext (hx1.trans hx2)) hl).mono ?_
  rintro v3 h3 ⟨hx3, hi⟩
  rw [sgn_eq] at hi
  have hi0 := hi
  obtain ⟨a, cap, rfl, -⟩ := hi
  refine DStore.result (hx3.at hg2) (by decide) rfl rfl (hx1.trans (hx2.trans hx3)) (by have := hx1.size; omega) hi0 ?_
  intro h4 hx4 hi4 hw
  exact DLoad.whole _ hw rfl ⟨hx4, hi4⟩

theorem Neg_any (h : Heap) (v : Value) (z : Int) (hv : IntAt h v z) (hl : (digs z.natAbs).length < 1000000000) :
    Spec E.P f_integer_Neg #[v] h (fun v' h' => Ext h h' ∧ IntAt h' v' (-z)) := by
  obtain ⟨a, cap, rfl, hn⟩ := hv
  refine Spec.intro hE (args := [_]) F_integer_Neg rfl rfl (Nat.le_of_ble_eq_true rfl) ?_
  refine DNew.intro ?_
  intro b0 h1 hb0 hx1 hs1 hg1
  refine DNew.intro ?_
  intro b h2 hb hx2 hs2 hg2
  have w0 : Whole h1 b0 t_integer_Int [_, _] := hg1
  have w := w0.ext hx2
  refine DLoad.scalar (w.get 0 rfl) ?_
  refine DLoad.scalar (w.get 1 rfl) ?_
  refine (From_any h2 _ _ z.natAbs (hn.ext (hx1.trans hx2)) hl).mono ?_
  rintro v3 h3 ⟨hx3, hi⟩
  have e : sgn (!decide (z < 0)) z.natAbs = -z := by unfold sgn; split <;> simp_all <;> omega
  rw [e] at hi
  have hi0 := hi
  obtain ⟨a, cap, rfl, -⟩ := hi
  refine DStore.result (hx3.at hg2) (by decide) rfl rfl (hx1.trans (hx2.trans hx3)) (by have := hx1.size; omega) hi0 ?_
  intro h4 hx4 hi4 hw
  exact DLoad.whole _ hw rfl ⟨hx4, hi4⟩

theorem Sign_any (h : Heap) (v : Value) (z : Int) (hv : IntAt h v z) (hl : (digs z.natAbs).length < 1000000000) :
    Spec E.P f_integer_Sign #[v] h (fun v' h' => Ext h h' ∧ v' = .int .i64 (cmpI z 0)) := by
  obtain ⟨a, cap, rfl, hn⟩ := hv
  refine Spec.intro hE (args := [_]) F_integer_Sign rfl rfl (Nat.le_of_ble_eq_true rfl) ?_
  refine DNew.intro ?_
  intro b0 h1 hb0 hx1 hs1 hg1
  have w : Whole h1 b0 t_integer_Int [_, _] := hg1
  refine DLoad.scalar (w.get 1 rfl) ?_
  refine (IsZero_any h1 _ _ (NatAt.ext hx1 hn) (digs_dg _) hl).mono ?_
  rintro v3 h3 ⟨rfl, rfl⟩
  rw [dval_digs]
  refine bsp.dec (fun hz => ?_) (fun hz => ?_)
  · refine ⟨hx1, ?_⟩
    have : z = 0 := by omega
    subst this; rfl
  · refine DLoad.scalar (w.get 0 rfl) ?_
    refine bsp.dec (fun hz => ?_) (fun hz => ?_)
    · exact ⟨hx1, by rw [cmpI, if_pos hz]⟩
    · exact ⟨hx1, by rw [cmpI, if_neg hz, if_pos (by omega)]⟩

theorem cmpI_lo {a b : Int} (h : a < 0) (k : b < 0) : cmpI a b = cmpN b.natAbs a.natAbs := by
  unfold cmpI cmpN; repeat' split
  all_goals omega
theorem cmpI_hi {a b : Int} (h : 0 ≤ a) (k : 0 ≤ b) : cmpI a b = cmpN a.natAbs b.natAbs := by
  unfold cmpI cmpN; repeat' split
  all_goals omega

theorem integer_Cmp_any (h : Heap) (v1 v2 : Value) (x y : Int) (hv1 : IntAt h v1 x) (hv2 : IntAt h v2 y) (hl1 : (digs x.natAbs).length < 1000000000) (hl2 : (digs y.natAbs).length < 1000000000) :
    Spec E.P f_integer_Cmp #[v1, v2] h (fun v' h' => Ext h h' ∧ v' = .int .i64 (cmpI x y)) := by
  have hv1' := hv1
  have hv2' := hv2
  obtain ⟨a1, cap1, rfl, hn1⟩ := hv1
  obtain ⟨a2, cap2, rfl, hn2⟩ := hv2
  refine Spec.intro hE (args := [_, _]) F_integer_Cmp rfl rfl (Nat.le_of_ble_eq_true rfl) ?_
  refine DNew.intro ?_
  intro b1 h1 hb1 hx1 hs1 hg1
  refine DNew.intro ?_
  intro b2 h2 hb2 hx2 hs2 hg2
  have w1 : Whole h2 b1 t_integer_Int [_, _] := hx2.at hg1
  have w2 : Whole h2 b2 t_integer_Int [_, _] := hg2
  have hx02 : Ext h h2 := hx1.trans hx2
  refine DDraw.intro hE (.take 0 (.take 2 (.one 1 (.one 3 (.take 4 (.take 5 .done)))))) none (Ext h2 ·) (by kernel_rfl) Ext.rfl ?_
  refine QLoad.agg _ rfl (fun _ e => (w1.ext e).cellsAt) ?_
  refine QLoad.agg _ rfl (fun _ e => (w2.ext e).cellsAt) ?_
  refine (Sign_any h2 _ x (hv1'.ext hx02) hl1).mono ?_
  rintro _ h3 ⟨hx3, rfl⟩
  refine ⟨hx3, ?_⟩
  refine (Sign_any h3 _ y (hv2'.ext (hx02.trans hx3)) hl2).mono ?_
  rintro _ h4 ⟨hx4, rfl⟩
  have hx34 := hx3.trans hx4
  have hx04 := hx02.trans hx34
  refine ⟨hx34, ?_⟩
  refine bsp.dec (fun hc => ?_) (fun hc => ?_)
  · refine ⟨hx04, ?_⟩
    unfold cmpI at hc ⊢
    rw [if_pos (by repeat' split at hc <;> omega)]
  refine bsp.dec (fun hc2 => ?_) (fun hc2 => ?_)
  · refine ⟨hx04, ?_⟩
    unfold cmpI at hc2 ⊢
    have : y < x := by repeat' split at hc2 <;> omega
    rw [if_neg (by omega), if_pos this]
  refine bsp.dec (fun hc3 => ?_) (fun hc3 => ?_)
  · have hx : x < 0 := by unfold cmpI at hc3; repeat' split at hc3 <;> omega
    have hy : y < 0 := by unfold cmpI at hc hc2; repeat' split at hc <;> repeat' split at hc2 <;> omega
    refine DLoad.scalar ((w2.ext hx34).get 1 rfl) ?_
    refine DLoad.scalar ((w1.ext hx34).get 1 rfl) ?_
    refine (Cmp_any h4 _ _ _ _ (NatAt.ext hx04 hn2) (NatAt.ext hx04 hn1) (digs_dg _) (digs_dg _) hl2 hl1).mono ?_
    rintro _ h5 ⟨rfl, rfl⟩
    refine ⟨hx04, ?_⟩
    rw [dval_digs, dval_digs, cmpI_lo hx hy]
  · have hx : 0 ≤ x := by unfold cmpI at hc3; repeat' split at hc3 <;> omega
    have hy : 0 ≤ y := by unfold cmpI at hc hc2; repeat' split at hc <;> repeat' split at hc2 <;> omega
    refine DLoad.scalar ((w1.ext hx34).get 1 rfl) ?_
    refine DLoad.scalar ((w2.ext hx34).get 1 rfl) ?_
    refine (Cmp_any h4 _ _ _ _ (NatAt.ext hx04 hn1) (NatAt.ext hx04 hn2) (digs_dg _) (digs_dg _) hl1 hl2).mono ?_
    rintro _ h5 ⟨rfl, rfl⟩
    refine ⟨hx04, ?_⟩
    rw [dval_digs, dval_digs, cmpI_hi hx hy]

theorem sgn_mul (x y : Int) : sgn (decide (x < 0) != decide (y < 0)) (x.natAbs * y.natAbs) = x * y := by
  unfold sgn
  by_cases h1 : x < 0 <;> by_cases h2 : y < 0 <;> simp only [h1, h2] <;> simp
  · rw [Int.ofNat_natAbs_of_nonpos (by omega), Int.ofNat_natAbs_of_nonpos (by omega)]; exact Int.neg_mul_neg _ _
  · rw [Int.ofNat_natAbs_of_nonpos (by omega), Int.natAbs_of_nonneg (by omega)]; rw [Int.neg_mul, Int.neg_neg]
  · rw [Int.ofNat_natAbs_of_nonpos (a := y) (by omega), Int.natAbs_of_nonneg (by omega)]; rw [Int.mul_neg, Int.neg_neg]
  · rw [Int.natAbs_of_nonneg (by omega), Int.natAbs_of_nonneg (by omega)]

theorem integer_Mul_min (h : Heap) (v1 v2 : Value) (x y : Int) (hv1 : IntAt h v1 x) (hv2 : IntAt h v2 y) (hl1 : (digs x.natAbs).length < 10000000) (hl2 : (digs y.natAbs).length < 10000000) (hmin : (digs x.natAbs).length < 48 ∨ (digs y.natAbs).length < 48) :
    Spec E.P f_integer_Mul #[v1, v2] h (fun v' h' => Ext h h' ∧ IntAt h' v' (x * y)) := by
  obtain ⟨a1, cap1, rfl, hn1⟩ := hv1
  obtain ⟨a2, cap2, rfl, hn2⟩ := hv2
  refine Spec.intro hE (args := [_, _]) F_integer_Mul rfl rfl (Nat.le_of_ble_eq_true rfl) ?_
  refine DNew.intro ?_
  intro b1 h1 hb1 hx1 hs1 hg1
  refine DNew.intro ?_
  intro b2 h2 hb2 hx2 hs2 hg2
  refine DNew.intro ?_
  intro b h3 hb hx3 hs3 hg3
  have w1 : Whole h3 b1 t_integer_Int [_, _] := hx3.at (hx2.at hg1)
  have w2 : Whole h3 b2 t_integer_Int [_, _] := hx3.at hg2
  have hx03 : Ext h h3 := hx1.trans (hx2.trans hx3)
  refine DDraw.intro hE (.take 0 (.take 2 (.take 5 (.take 7 (.take 1 (.take 3 (.take 4 (.take 6 (.take 8 (.one 9 (.one 10 (.one 11 .done)))))))))))) (some 11) (Ext h3 ·) (by kernel_rfl) Ext.rfl ?_
  refine QLoad.scalar (fun _ e => (w1.ext e).get 0 rfl) ?_
  refine QLoad.scalar (fun _ e => (w2.ext e).get 0 rfl) ?_
  refine QLoad.scalar (fun _ e => (w1.ext e).get 1 rfl) ?_
  refine QLoad.scalar (fun _ e => (w2.ext e).get 1 rfl) ?_
  refine (Mul_min h3 _ _ _ _ (NatAt.ext hx03 hn1) (NatAt.ext hx03 hn2) (digs_dg _) (digs_dg _) hl1 hl2 hmin).mono ?_
  rintro v4 h4 ⟨hx4, hv4⟩
  rw [dval_digs, dval_digs] at hv4
  refine ⟨hx4, ?_⟩
  refine (signed_any h4 _ _ _ hv4).mono ?_
  rintro v5 h5 ⟨hx5, hi⟩
  rw [sgn_mul] at hi
  have hi0 := hi
  obtain ⟨a, cap, rfl, -⟩ := hi
  refine ⟨hx4.trans hx5, ?_⟩
  refine DStore.result ((hx4.trans hx5).at hg3) (by decide) rfl rfl (hx03.trans (hx4.trans hx5)) (by have := hx1.size; have := hx2.size; omega) hi0 ?_
  intro h6 hx6 hi6 hw
  exact DLoad.whole _ hw rfl ⟨hx6, hi6⟩

theorem integer_Mul_any (h : Heap) (v1 v2 : Value) (x y : Int) (hv1 : IntAt h v1 x) (hv2 : IntAt h v2 y) (hl1 : (digs x.natAbs).length < 48) (hl2 : (digs y.natAbs).length < 48) :
    Spec E.P f_integer_Mul #[v1, v2] h (fun v' h' => Ext h h' ∧ IntAt h' v' (x * y)) :=
  integer_Mul_min h v1 v2 x y hv1 hv2 (by omega) (by omega) (.inl hl1)

theorem integer_Add_any (h : Heap) (v1 v2 : Value) (x y : Int) (hv1 : IntAt h v1 x) (hv2 : IntAt h v2 y) (hl1 : (digs x.natAbs).length < 100000000) (hl2 : (digs y.natAbs).length < 100000000) :
    Spec E.P f_integer_Add #[v1, v2] h (fun v' h' => Ext h h' ∧ IntAt h' v' (x + y)) := by
  obtain ⟨a1, cap1, rfl, hn1⟩ := hv1
  obtain ⟨a2, cap2, rfl, hn2⟩ := hv2
  refine Spec.intro hE (args := [_, _]) F_integer_Add rfl rfl (Nat.le_of_ble_eq_true rfl) ?_
  refine DNew.intro ?_
  intro b1 h1 hb1 hx1 hs1 hg1
  refine DNew.intro ?_
  intro b2 h2 hb2 hx2 hs2 hg2
  refine DNew.intro ?_
  intro b h3 hb hx3 hs3 hg3
  have w1 : Whole h3 b1 t_integer_Int [_, _] := hx3.at (hx2.at hg1)
  have w2 : Whole h3 b2 t_integer_Int [_, _] := hx3.at hg2
  have hx03 : Ext h h3 := hx1.trans (hx2.trans hx3)
  have hB : h.size ≤ b := by have := hx1.size; have := hx2.size; omega
  have hn1' := NatAt.ext hx03 hn1
  have hn2' := NatAt.ext hx03 hn2
  refine DLoad.scalar (w1.get 0 rfl) ?_
  refine DLoad.scalar (w2.get 0 rfl) ?_
  refine bsp.intro (fun hc => ?_) (fun hc => ?_)
  · refine DDraw.intro hE (.take 0 (.take 2 (.take 4 (.take 1 (.take 3 (.take 5 (.one 6 (.one 7 (.one 8 .done))))))))) (some 8) (Ext h3 ·) (by kernel_rfl) Ext.rfl ?_
    refine QLoad.scalar (fun _ e => (w1.ext e).get 0 rfl) ?_
    refine QLoad.scalar (fun _ e => (w1.ext e).get 1 rfl) ?_
    refine QLoad.scalar (fun _ e => (w2.ext e).get 1 rfl) ?_
    refine (Add_any h3 _ _ _ _ hn1' hn2' (digs_dg _) (digs_dg _) hl1 hl2).mono ?_
    rintro v4 h4 ⟨hx4, hv4⟩
    rw [dval_digs, dval_digs] at hv4
    refine ⟨hx4, ?_⟩
    refine (signed_any h4 _ _ _ hv4).mono ?_
    rintro v5 h5 ⟨hx5, hi⟩
    have e : sgn (decide (x < 0)) (x.natAbs + y.natAbs) = x + y := by
      by_cases hx : x < 0 <;> by_cases hy : y < 0 <;> simp [sgn, hx, hy] at hc ⊢ <;> omega
    rw [e] at hi
    have hi0 := hi
    obtain ⟨a, cap, rfl, -⟩ := hi
    refine ⟨hx4.trans hx5, ?_⟩
    refine DStore.result ((hx4.trans hx5).at hg3) (by decide) rfl rfl (hx03.trans (hx4.trans hx5)) hB hi0 ?_
    intro h6 hx6 hi6 hw
    exact DLoad.whole _ hw rfl ⟨hx6, hi6⟩
  · refine DLoad.scalar (w1.get 1 rfl) ?_
    refine DLoad.scalar (w2.get 1 rfl) ?_
    refine (Cmp_any h3 _ _ _ _ hn1' hn2' (digs_dg _) (digs_dg _) (by omega) (by omega)).mono ?_
    rintro _ h4 ⟨rfl, rfl⟩
    rw [dval_digs, dval_digs]
    refine bsp.dec (fun hge => ?_) (fun hge => ?_)
    · have hle : y.natAbs ≤ x.natAbs := by unfold cmpN at hge; repeat' split at hge <;> omega
      refine DLoad.scalar (w1.get 1 rfl) ?_
      refine DLoad.scalar (w2.get 1 rfl) ?_
      refine (Sub_any h4 _ _ _ _ hn1' hn2' (digs_dg _) (digs_dg _) hl1 hl2 (by rw [dval_digs, dval_digs]; exact hle)).mono ?_
      rintro _ h5 ⟨hx5, v5, rfl, hv5⟩
      rw [dval_digs, dval_digs] at hv5
      refine DLoad.scalar ((w1.ext hx5).get 0 rfl) ?_
      refine (signed_any h5 _ _ _ hv5).mono ?_
      rintro v6 h6 ⟨hx6, hi⟩
      have e : sgn (decide (x < 0)) (x.natAbs - y.natAbs) = x + y := by
        unfold sgn; split <;> simp_all <;> omega
      rw [e] at hi
      have hi0 := hi
      obtain ⟨a, cap, rfl, -⟩ := hi
      refine DStore.result ((hx5.trans hx6).at hg3) (by decide) rfl rfl (hx03.trans (hx5.trans hx6)) hB hi0 ?_
      intro h6 hx6 hi6 hw
      exact DLoad.whole _ hw rfl ⟨hx6, hi6⟩
    · have hle : x.natAbs ≤ y.natAbs := by unfold cmpN at hge; repeat' split at hge <;> omega
      refine DLoad.scalar (w2.get 1 rfl) ?_
      refine DLoad.scalar (w1.get 1 rfl) ?_
      refine (Sub_any h4 _ _ _ _ hn2' hn1' (digs_dg _) (digs_dg _) hl2 hl1 (by rw [dval_digs, dval_digs]; exact hle)).mono ?_
      rintro _ h5 ⟨hx5, v5, rfl, hv5⟩
      rw [dval_digs, dval_digs] at hv5
      refine DLoad.scalar ((w2.ext hx5).get 0 rfl) ?_
      refine (signed_any h5 _ _ _ hv5).mono ?_
      rintro v6 h6 ⟨hx6, hi⟩
      have e : sgn (decide (y < 0)) (y.natAbs - x.natAbs) = x + y := by
        unfold sgn; split <;> simp_all <;> omega
      rw [e] at hi
      have hi0 := hi
      obtain ⟨a, cap, rfl, -⟩ := hi
      refine DStore.result ((hx5.trans hx6).at hg3) (by decide) rfl rfl (hx03.trans (hx5.trans hx6)) hB hi0 ?_
      intro h6 hx6 hi6 hw
      exact DLoad.whole _ hw rfl ⟨hx6, hi6⟩

theorem integer_Of_any (h : Heap) (z : Int) (hz : -9223372036854775808 ≤ z ∧ z ≤ 9223372036854775807) : Spec E.P f_integer_Of #[.int .i64 z] h (fun v h' => Ext h h' ∧ IntAt h' v z) := by
  refine Spec.intro hE (args := [_]) F_integer_Of rfl rfl (Nat.le_of_ble_eq_true rfl) ?_
  refine DNew.intro ?_
  intro b h1 hb hx1 hs1 hg1
  refine bsp.dec (fun hc => ?_) (fun hc => ?_)
  · refine DWrap.eq (m := (18446744073709551616 + z)) (by rw [IntKind.wrap_u64]; omega) ?_
    refine DWrap.eq (m := (z.natAbs : Nat)) (by rw [IntKind.wrap_u64]; omega) ?_
    refine (natural_Of_any h1 z.natAbs (by omega)).mono ?_
    rintro v2 h2 ⟨hx2, hv2⟩
    have hi : IntAt h2 (.agg #[.bool true, v2]) (sgn true z.natAbs) := IntAt.mk hv2 (by simp; omega)
    have e : sgn true z.natAbs = z := by unfold sgn; simp; omega
    rw [e] at hi
    obtain ⟨a, cap, rfl, -⟩ := hv2
    refine DPure.build [.bool true, .slice a (digs z.natAbs).length cap] (by kernel_rfl) ?_
    refine DStore.result (hx2.at hg1) (by decide) rfl rfl (hx1.trans hx2) (by omega) hi ?_
    intro h6 hx6 hi6 hw
    exact DLoad.whole _ hw rfl ⟨hx6, hi6⟩
  · refine DWrap.eq (m := (z.natAbs : Nat)) (by rw [IntKind.wrap_u64]; omega) ?_
    refine (natural_Of_any h1 z.natAbs (by omega)).mono ?_
    rintro v2 h2 ⟨hx2, hv2⟩
    have hi : IntAt h2 (.agg #[.bool false, v2]) (sgn false z.natAbs) := IntAt.mk hv2 (by simp)
    have e : sgn false z.natAbs = z := by unfold sgn; simp; omega
    rw [e] at hi
    obtain ⟨a, cap, rfl, -⟩ := hv2
    refine DPure.build [.bool false, .slice a (digs z.natAbs).length cap] (by kernel_rfl) ?_
    refine DStore.result (hx2.at hg1) (by decide) rfl rfl (hx1.trans hx2) (by omega) hi ?_
    intro h6 hx6 hi6 hw
    exact DLoad.whole _ hw rfl ⟨hx6, hi6⟩
end Go.Vc
