/- CheckpolyExact returns true: its walk, and its law. -/
import Derived.Test.YtjjcncedfphnhaaNc
import Derived.Test.YtjjcncedfphnhaaAw
namespace Go.Vc
open Go.Proofs

theorem nrm_sub_zero {a b : Pol} (ha : Canon a) (hb : Canon b) (h : nrm (a ++ negP b) = []) : a = b := by
  refine canon_unique ha hb fun e _ => ?_
  have := nrm_eqv (a ++ negP b) e
  rw [h, cf_append, cf_neg] at this
  simp only [cf] at this; omega
/-- a factor other than 0 can be cancelled -/
theorem pmul_cancel {a b g : Pol} (ha : Canon a) (hb : Canon b) (hg : Canon g) (hgn : g ≠ []) (h : Eqv (pmulP a g) (pmulP b g)) : a = b := by
  refine nrm_sub_zero ha hb ?_
  cases hc : nrm (a ++ negP b) with
  | nil => rfl
  | cons s c =>
    exfalso
    have hcc : Canon (s :: c) := hc ▸ nrm_canon (ha.l4.append hb.l4.neg)
    match g, hg, hgn with
    | t :: g, hg, _ =>
      have h1 := pmul_lead hcc hg
      have h2 : Eqv (pmulP (s :: c) (t :: g)) [] := by
        rw [← hc]
        refine ((nrm_eqv _).pmul_left _).trans ?_
        rw [pmulP_append, pmul_neg]
        exact (h.append Eqv.rfl).trans (Eqv.cancel _)
      rw [h2] at h1
      have := Int.mul_ne_zero (hcc.nz s (by simp)) (hg.nz t (by simp))
      exact this h1.symm

theorem ExactP.norm {f g d : Pol} {H P Q : Nat} (h : ExactP f g d true H) (hP : norm1 f ≤ P) (hQ : norm1 g ≤ Q) (R : Nat) (h2 : P * (1 + Q) ^ ((H + 1) * ((H + 1) * ((H + 1) * (H + 1))) + 1) * R < huge) (hR : 0 < R) : ∃ K, norm1 d ≤ K ∧ K < huge ∧ K * R < huge :=
  ⟨_, Nat.le_trans (h.1 rfl).2.2.2 (Nat.mul_le_mul hP (Nat.pow_le_pow_left (Nat.add_le_add_left hQ 1) _)), Nat.lt_of_le_of_lt (Nat.le_mul_of_pos_right _ hR) h2, h2⟩

/-- x_4^2 + x_1 -/
abbrev exW : Pol := [(1, [0, 0, 0, 2]), (1, [1, 0, 0, 0])]
theorem exW_canon : Canon exW := nrm_eq (q := exW) ⟨List.pairwise_cons.2 ⟨fun s hs => by rw [List.mem_singleton.1 hs]; decide, List.pairwise_singleton _ _⟩, by decide, by intro t ht; simp at ht; rcases ht with rfl | rfl <;> rfl⟩ (by intro t ht; simp at ht; rcases ht with rfl | rfl <;> rfl) Eqv.rfl ▸ nrm_canon (by intro t ht; simp at ht; rcases ht with rfl | rfl <;> rfl)

/-- no quotient where a constant is added to a product -/
theorem exW_const {a b : Pol} (ha : Canon a) (hb : Canon b) {z : Int} (hz : z ≠ 0) (h : Eqv (pmulP a exW) (pmulP b exW ++ conP z)) : False := by
  have h2 : Eqv (pmulP (nrm (a ++ negP b)) exW) (conP z) := by
    refine ((nrm_eqv _).pmul_left _).trans ?_
    rw [pmulP_append, pmul_neg]
    intro e
    have := h e
    rw [cf_append] at this
    rw [cf_append, cf_neg]; omega
  cases hc : nrm (a ++ negP b) with
  | nil =>
    rw [hc] at h2
    have := h2 [0, 0, 0, 0]
    rw [conP_cf, if_pos rfl] at this
    exact hz this.symm
  | cons s c =>
    rw [hc] at h2
    have hcc : Canon (s :: c) := hc ▸ nrm_canon (ha.l4.append hb.l4.neg)
    have h1 := pmul_lead hcc exW_canon
    rw [h2, conP_cf] at h1
    have h4 := hcc.l4 s (by simp)
    obtain ⟨e0, e1, e2, e3, he⟩ := four h4
    rw [he] at h1
    rw [if_neg (by simp [addE])] at h1
    exact hcc.nz s (by simp) (by simpa using h1.symm)

set_option maxHeartbeats 3200000 in
theorem CheckpolyExact_any (h : Heap) (v1 v2 : Value) (p q : Pol) (n : Int) (hp : MonosAt h v1 p) (hq : MonosAt h v2 q) (hn : 0 ≤ n ∧ n ≤ 255) :
    Spec E.P f_cylinderlaw54_CheckpolyExact #[v1, v2, .int .u8 n] h (fun v h' => Ext h h' ∧ v = .bool true) := by
  refine Spec.intro hE (args := [_, _, _]) F_cylinderlaw54_CheckpolyExact rfl rfl (Nat.le_of_ble_eq_true rfl) ?_
  have hret : ∀ h1, Ext h h1 → Spec E.P f_cylinderlaw54_awake #[] h1 (fun v h' => Ext h h' ∧ v = .bool true) := fun h1 hx => (awake_any h1).mono fun v h2 hh => ⟨hx.trans hh.1, hh.2⟩
  refine (awake_any h).mono ?_
  rintro _ h1 ⟨hx1, rfl⟩
  refine (Few_any h1 v1 p 5 3 (hp.ext hx1) (by decide)).mono ?_
  rintro _ h1 ⟨rfl, b1, rfl, hb1⟩
  cases b1
  · exact (hret h1 hx1).mono fun _ _ hh => hh
  refine (Few_any h1 v2 q 5 3 (hq.ext hx1) (by decide)).mono ?_
  rintro _ h1 ⟨rfl, b2, rfl, hb2⟩
  cases b2
  · exact (hret h1 hx1).mono fun _ _ hh => hh
  have hlp := (hb1 rfl).1
  have hlq := (hb2 rfl).1
  have hpB := (hb1 rfl).2
  have hqB := (hb2 rfl).2
  have np := hp.norm hlp (by decide)
  have nq := hq.norm hlq (by decide)
  obtain ⟨np1, hLp⟩ := hp.norm128
  obtain ⟨nq1, hLq⟩ := hq.norm128
  have bnum : (1000000 : Nat) < big := by decide
  have bhuge := big_huge
  refine (Poly_any h1 v1 p (hp.ext hx1) (by omega)).mono ?_
  rintro u1 h2 ⟨hx2, hu1⟩
  refine (Poly_any h2 v2 q (hq.ext (hx1.trans hx2)) (by omega)).mono ?_
  rintro u2 h3 ⟨hx3, hu2⟩
  have hu1 := hu1.ext hx3
  have hx03 := hx1.trans (hx2.trans hx3)
  have cp := nrm_canon hLp
  have cq := nrm_canon hLq
  have rp := nrm_norm p
  have rq := nrm_norm q
  have Bp := nrm_expB hLp hpB
  refine (ExactN 3 3 640 640 (by decide) (by decide) h3 u1 u2 p q hu1 hu2 hpB hqB (by omega) (by omega) (by omega) (by omega) (by decide) (fun fh gh hfh _ k hk => by have := hfh.le cp.l4 Bp hk; omega) (by decide +kernel) (by decide) (by decide)).mono ?_
  rintro _ h4 ⟨hx4, w, d, ok, rfl, hd, hex⟩
  have hu1 := hu1.ext hx4
  have hu2 := hu2.ext hx4
  have hx04 := hx03.trans hx4
  cases ok
  · obtain rfl := (hex.2 rfl).1
    obtain ⟨wa, wcap, rfl, -⟩ := hd
    obtain ⟨h5, hx5, rfl⟩ : ∃ h5, Ext h4 h5 ∧ h5 = h4 := ⟨h4, Ext.rfl, rfl⟩
    have hx05 := hx04
    refine (Var_any h5 3 (by decide)).mono ?_
    rintro y1 h6 ⟨hx6, hy1⟩
    refine (Var_any h6 3 (by decide)).mono ?_
    rintro y2 h7 ⟨hx7, hy2⟩
    refine (MulN h7 y1 y2 _ _ (hy1.ext hx7) hy2 (.inl (by simp)) (.inl (by simp)) 1 (by decide) (by unfold ExpB; decide) (by unfold ExpB; decide) (by decide) (by decide) (by decide)).mono ?_
    rintro y3 h8 ⟨hx8, hy3⟩
    refine (Var_any h8 0 (by decide)).mono ?_
    rintro y4 h9 ⟨hx9, hy4⟩
    have e1 : nrm (pmulP [((1 : Int), unitE 3)] [(1, unitE 3)]) = [(1, [0, 0, 0, 2])] := by decide
    rw [e1] at hy3
    refine (AddN h9 y3 y4 _ _ (hy3.ext hx9) hy4 (.inl (by simp)) (.inl (by simp)) (by decide)).mono ?_
    rintro y5 h10 ⟨hx10, hy5⟩
    have e2 : nrm ([((1 : Int), [0, 0, 0, 2])] ++ [(1, unitE 0)]) = exW := by decide
    rw [e2] at hy5
    have hx510 := hx6.trans (hx7.trans (hx8.trans (hx9.trans hx10)))
    have hu1 := hu1.ext hx510
    have nW : norm1 exW = 2 := rfl
    have BW : ExpB exW 3 := by unfold ExpB; decide
    have lW : exW.length = 2 := rfl
    refine (MulN h10 y5 u1 _ p hy5 hu1 (.inl (by simp)) (.inl (by omega)) 3 (by decide) BW hpB (by omega) np (by rw [nW]; omega)).mono ?_
    rintro y6 h11 ⟨hx11, hy6⟩
    have mL := pmul_l4 exW_canon.l4 hLp
    have mc := nrm_canon mL
    have mn := nrm_norm (pmulP exW p)
    rw [norm1_pmul, len_pmul, nW, lW] at mn
    have mB : ExpB (nrm (pmulP exW p)) 6 := nrm_expB mL (pmul_expB BW hpB)
    have me : Eqv (nrm (pmulP exW p)) (pmulP (nrm p) exW) := (nrm_eqv _).trans ((pmul_comm _ _).trans ((nrm_eqv p).symm.pmul_left _))
    generalize nrm (pmulP exW p) = m at *
    have hW11 := hy5.ext hx11
    refine (ExactN 6 6 1280 2 (by decide) (by decide) h11 y6 y5 m exW hy6 hW11 mB (BW.mono (by decide)) (by omega) (by decide) (by omega) (by decide) (by decide) (fun fh gh hfh _ k hk => by
      rw [nrm_self mc] at hfh
      have := hfh.le mc.l4 mB hk; omega) (by decide +kernel) (by decide) (by decide)).mono ?_
    rw [nrm_self mc, nrm_self exW_canon]
    rintro _ h12 ⟨hx12, w2, d2, ok2, rfl, hd2, hex2⟩
    cases ok2
    · exact absurd ⟨cp, me⟩ ((hex2.2 rfl).2 (by decide) (nrm p))
    have hd2e : d2 = nrm p := pmul_cancel (hex2.1 rfl).2.1.1 cp exW_canon (by decide) ((Eqv.symm (p := m) (hex2.1 rfl).2.1.2).trans me)
    rw [hd2e] at hd2
    refine DWrap.is n rfl (by omega) ?_
    refine DWrap.is (n + 1) rfl (by omega) ?_
    refine (num_any h12 (n + 1) (by omega)).mono ?_
    rintro y7 h13 ⟨hx13, hy7⟩
    have cn := conP_norm (n + 1)
    have cl := conP_len (n + 1)
    refine (AddN h13 y6 y7 m _ (hy6.ext (hx12.trans hx13)) hy7 (.inl (by omega)) (.inl (by omega)) (by omega)).mono ?_
    rintro y8 h14 ⟨hx14, hy8⟩
    have aL := mc.l4.append (conP_canon (n + 1)).l4
    have ac := nrm_canon aL
    have an := nrm_norm (m ++ conP (n + 1))
    rw [norm1_append, List.length_append] at an
    have aB : ExpB (nrm (m ++ conP (n + 1))) 6 := nrm_expB aL (mB.append (conP_expB _ _))
    have ae := nrm_eqv (m ++ conP (n + 1))
    generalize nrm (m ++ conP (n + 1)) = m2 at *
    refine (ExactN 6 6 1536 2 (by decide) (by decide) h14 y8 y5 m2 exW hy8 (hW11.ext (hx12.trans (hx13.trans hx14))) aB (BW.mono (by decide)) (by omega) (by decide) (by omega) (by decide) (by decide) (fun fh gh hfh _ k hk => by
      rw [nrm_self ac] at hfh
      have := hfh.le ac.l4 aB hk; omega) (by decide +kernel) (by decide) (by decide)).mono ?_
    rw [nrm_self ac, nrm_self exW_canon]
    rintro _ h15 ⟨hx15, w3, d3, ok3, rfl, hd3, hex3⟩
    cases ok3
    · have hx1115 := hx12.trans (hx13.trans (hx14.trans hx15))
      refine (NormalN h15 u1 p (hu1.ext (hx11.trans hx1115)) (.inl (by omega)) np).mono ?_
      rintro y9 h16 ⟨hx16, hy9⟩
      refine (equal_any h16 w2 y9 (nrm p) (nrm p) (hd2.ext (hx13.trans (hx14.trans (hx15.trans hx16)))) hy9 (by omega) (by omega) (by omega) (by omega)).mono ?_
      rintro _ h17 ⟨hx17, rfl⟩
      refine bsp.yes (by simp) ?_
      exact ⟨hx05.trans (hx510.trans (hx11.trans (hx1115.trans (hx16.trans hx17)))), rfl⟩
    · exfalso
      have h1 := (hex3.1 rfl).2.1
      refine exW_const h1.1 cp (z := n + 1) (by omega) ((Eqv.symm (p := m2) h1.2).trans (Eqv.trans ae (me.append Eqv.rfl)))
  · have n640 : norm1 (nrm p) ≤ 640 := by omega
    have q640 : norm1 (nrm q) ≤ 640 := by omega
    have Q640 : norm1 q ≤ 640 := by omega
    obtain ⟨K, hK, hK1, hK2⟩ := hex.norm n640 q640 640 (by decide +kernel) (by decide)
    have hqn := (hex.1 rfl).1
    have hquo := (hex.1 rfl).2.1
    have hdB := (hex.1 rfl).2.2.1
    refine (NormalN h4 u2 q hu2 (.inl (by omega)) nq).mono ?_
    rintro w1 h41 ⟨hx41, hw1⟩
    obtain ⟨wa, wcap, rfl, -⟩ := hw1
    have hql : ¬ ((nrm q).length : Int) = 0 := fun e => hqn (List.eq_nil_of_length_eq_zero (by omega))
    refine bsp.no (b := ((nrm q).length : Int) == 0) (by simpa using hql) ?_
    have hdl := canon_count hquo.1 hdB
    refine (polyMul_canon h41 w u2 d q (hd.ext hx41) (hu2.ext hx41) hquo.1 3 (by decide) hdB hqB (by omega) (by omega) (Nat.lt_of_le_of_lt hK hK1) nq (Nat.lt_of_le_of_lt (Nat.mul_le_mul hK Q640) hK2)).mono ?_
    rintro w3 h42 ⟨hx42, g, z, hz, hcg, heg, hs, -, -⟩
    have hzp : z = nrm p := canon_unique hs.canon cp fun e _ => by
      rw [hs.cf, hquo.2 e, nrm_eq hcg hLq heg]
    rw [hzp] at hz
    have hx442 := hx41.trans hx42
    refine (NormalN h42 u1 p (hu1.ext hx442) (.inl (by omega)) np).mono ?_
    rintro w4 h43 ⟨hx43, hw4⟩
    refine (equal_any h43 w3 w4 (nrm p) (nrm p) (hz.ext hx43) hw4 (by omega) (by omega) (by omega) (by omega)).mono ?_
    rintro _ h5 ⟨hx44, rfl⟩
    refine bsp.no (by simp) ?_
    have hx45 := hx442.trans (hx43.trans hx44)
    have hx05 := hx04.trans hx45
    have hu1 := hu1.ext hx45
    refine (Var_any h5 3 (by decide)).mono ?_
    rintro y1 h6 ⟨hx6, hy1⟩
    refine (Var_any h6 3 (by decide)).mono ?_
    rintro y2 h7 ⟨hx7, hy2⟩
    refine (MulN h7 y1 y2 _ _ (hy1.ext hx7) hy2 (.inl (by simp)) (.inl (by simp)) 1 (by decide) (by unfold ExpB; decide) (by unfold ExpB; decide) (by decide) (by decide) (by decide)).mono ?_
    rintro y3 h8 ⟨hx8, hy3⟩
    refine (Var_any h8 0 (by decide)).mono ?_
    rintro y4 h9 ⟨hx9, hy4⟩
    have e1 : nrm (pmulP [((1 : Int), unitE 3)] [(1, unitE 3)]) = [(1, [0, 0, 0, 2])] := by decide
    rw [e1] at hy3
    refine (AddN h9 y3 y4 _ _ (hy3.ext hx9) hy4 (.inl (by simp)) (.inl (by simp)) (by decide)).mono ?_
    rintro y5 h10 ⟨hx10, hy5⟩
    have e2 : nrm ([((1 : Int), [0, 0, 0, 2])] ++ [(1, unitE 0)]) = exW := by decide
    rw [e2] at hy5
    have hx510 := hx6.trans (hx7.trans (hx8.trans (hx9.trans hx10)))
    have hu1 := hu1.ext hx510
    have nW : norm1 exW = 2 := rfl
    have BW : ExpB exW 3 := by unfold ExpB; decide
    have lW : exW.length = 2 := rfl
    refine (MulN h10 y5 u1 _ p hy5 hu1 (.inl (by simp)) (.inl (by omega)) 3 (by decide) BW hpB (by omega) np (by rw [nW]; omega)).mono ?_
    rintro y6 h11 ⟨hx11, hy6⟩
    have mL := pmul_l4 exW_canon.l4 hLp
    have mc := nrm_canon mL
    have mn := nrm_norm (pmulP exW p)
    rw [norm1_pmul, len_pmul, nW, lW] at mn
    have mB : ExpB (nrm (pmulP exW p)) 6 := nrm_expB mL (pmul_expB BW hpB)
    have me : Eqv (nrm (pmulP exW p)) (pmulP (nrm p) exW) := (nrm_eqv _).trans ((pmul_comm _ _).trans ((nrm_eqv p).symm.pmul_left _))
    generalize nrm (pmulP exW p) = m at *
    have hW11 := hy5.ext hx11
    refine (ExactN 6 6 1280 2 (by decide) (by decide) h11 y6 y5 m exW hy6 hW11 mB (BW.mono (by decide)) (by omega) (by decide) (by omega) (by decide) (by decide) (fun fh gh hfh _ k hk => by
      rw [nrm_self mc] at hfh
      have := hfh.le mc.l4 mB hk; omega) (by decide +kernel) (by decide) (by decide)).mono ?_
    rw [nrm_self mc, nrm_self exW_canon]
    rintro _ h12 ⟨hx12, w2, d2, ok2, rfl, hd2, hex2⟩
    cases ok2
    · exact absurd ⟨cp, me⟩ ((hex2.2 rfl).2 (by decide) (nrm p))
    have hd2e : d2 = nrm p := pmul_cancel (hex2.1 rfl).2.1.1 cp exW_canon (by decide) ((Eqv.symm (p := m) (hex2.1 rfl).2.1.2).trans me)
    rw [hd2e] at hd2
    refine DWrap.is n rfl (by omega) ?_
    refine DWrap.is (n + 1) rfl (by omega) ?_
    refine (num_any h12 (n + 1) (by omega)).mono ?_
    rintro y7 h13 ⟨hx13, hy7⟩
    have cn := conP_norm (n + 1)
    have cl := conP_len (n + 1)
    refine (AddN h13 y6 y7 m _ (hy6.ext (hx12.trans hx13)) hy7 (.inl (by omega)) (.inl (by omega)) (by omega)).mono ?_
    rintro y8 h14 ⟨hx14, hy8⟩
    have aL := mc.l4.append (conP_canon (n + 1)).l4
    have ac := nrm_canon aL
    have an := nrm_norm (m ++ conP (n + 1))
    rw [norm1_append, List.length_append] at an
    have aB : ExpB (nrm (m ++ conP (n + 1))) 6 := nrm_expB aL (mB.append (conP_expB _ _))
    have ae := nrm_eqv (m ++ conP (n + 1))
    generalize nrm (m ++ conP (n + 1)) = m2 at *
    refine (ExactN 6 6 1536 2 (by decide) (by decide) h14 y8 y5 m2 exW hy8 (hW11.ext (hx12.trans (hx13.trans hx14))) aB (BW.mono (by decide)) (by omega) (by decide) (by omega) (by decide) (by decide) (fun fh gh hfh _ k hk => by
      rw [nrm_self ac] at hfh
      have := hfh.le ac.l4 aB hk; omega) (by decide +kernel) (by decide) (by decide)).mono ?_
    rw [nrm_self ac, nrm_self exW_canon]
    rintro _ h15 ⟨hx15, w3, d3, ok3, rfl, hd3, hex3⟩
    cases ok3
    · have hx1115 := hx12.trans (hx13.trans (hx14.trans hx15))
      refine (NormalN h15 u1 p (hu1.ext (hx11.trans hx1115)) (.inl (by omega)) np).mono ?_
      rintro y9 h16 ⟨hx16, hy9⟩
      refine (equal_any h16 w2 y9 (nrm p) (nrm p) (hd2.ext (hx13.trans (hx14.trans (hx15.trans hx16)))) hy9 (by omega) (by omega) (by omega) (by omega)).mono ?_
      rintro _ h17 ⟨hx17, rfl⟩
      refine bsp.yes (by simp) ?_
      exact ⟨hx05.trans (hx510.trans (hx11.trans (hx1115.trans (hx16.trans hx17)))), rfl⟩
    · exfalso
      have h1 := (hex3.1 rfl).2.1
      refine exW_const h1.1 cp (z := n + 1) (by omega) ((Eqv.symm (p := m2) h1.2).trans (Eqv.trans ae (me.append Eqv.rfl)))
end Go.Vc
