/- CheckpolyRing returns true: its walk, and its law. -/
import Derived.Test.YtjjcncedfphnhaaExr
namespace Go.Vc
open Go.Proofs

theorem pmul_one {p : Pol} (hp : L4 p) : pmulP p (conP 1) = p := by
  induction p with
  | nil => rfl
  | cons s r ih =>
    have ih := ih fun t ht => hp t (by simp [ht])
    obtain ⟨e0, e1, e2, e3, he⟩ := four (hp s (by simp))
    show [tmul (1, [0, 0, 0, 0]) s] ++ pmulP r (conP 1) = s :: r
    rw [ih]
    have : tmul (1, [0, 0, 0, 0]) s = s := Prod.ext (Int.one_mul _) (by rw [he]; simp [tmul, addE, he])
    rw [this]; rfl

theorem hi_exists {w : Pol} (hw : Canon w) (hn : w ≠ []) : ∃ wh, IsHi w wh := by
  have hl : w.length = (w.length - 1) + 1 := by have := List.length_pos_iff.2 hn; omega
  exact exists_hi _ w hl hw.l4

set_option maxHeartbeats 6400000 in
theorem CheckpolyRing_any (h : Heap) (v1 v2 v3 : Value) (p q r : Pol) (hp : MonosAt h v1 p) (hq : MonosAt h v2 q) (hr : MonosAt h v3 r) :
    Spec E.P f_cylinderlaw54_CheckpolyRing #[v1, v2, v3] h (fun v h' => Ext h h' ∧ v = .bool true) := by
  refine Spec.intro hE (args := [_, _, _]) F_cylinderlaw54_CheckpolyRing rfl rfl (Nat.le_of_ble_eq_true rfl) ?_
  have hret : ∀ h1, Ext h h1 → Spec E.P f_cylinderlaw54_awake #[] h1 (fun v h' => Ext h h' ∧ v = .bool true) := fun h1 hx => (awake_any h1).mono fun v h2 hh => ⟨hx.trans hh.1, hh.2⟩
  refine (awake_any h).mono ?_
  rintro _ h1 ⟨hx1, rfl⟩
  refine (Few_any h1 v1 p 4 3 (hp.ext hx1) (by decide)).mono ?_
  rintro _ h1 ⟨rfl, b1, rfl, hb1⟩
  cases b1
  · exact (hret h1 hx1).mono fun _ _ hh => hh
  refine (Few_any h1 v2 q 4 3 (hq.ext hx1) (by decide)).mono ?_
  rintro _ h1 ⟨rfl, b2, rfl, hb2⟩
  cases b2
  · exact (hret h1 hx1).mono fun _ _ hh => hh
  refine (Few_any h1 v3 r 4 3 (hr.ext hx1) (by decide)).mono ?_
  rintro _ h1 ⟨rfl, b3, rfl, hb3⟩
  cases b3
  · exact (hret h1 hx1).mono fun _ _ hh => hh
  have hlp := (hb1 rfl).1
  have hlq := (hb2 rfl).1
  have hlr := (hb3 rfl).1
  have hpB := (hb1 rfl).2
  have hqB := (hb2 rfl).2
  have hrB := (hb3 rfl).2
  have np := hp.norm hlp (by decide)
  have nq := hq.norm hlq (by decide)
  have nr := hr.norm hlr (by decide)
  obtain ⟨np1, hLp⟩ := hp.norm128
  obtain ⟨nq1, hLq⟩ := hq.norm128
  obtain ⟨nr1, hLr⟩ := hr.norm128
  have bnum : (1000000000000 : Nat) < big := by decide
  refine (Poly_any h1 v1 p (hp.ext hx1) (by omega)).mono ?_
  rintro u1 h2 ⟨hx2, hu1⟩
  refine (Poly_any h2 v2 q (hq.ext (hx1.trans hx2)) (by omega)).mono ?_
  rintro u2 h3 ⟨hx3, hu2⟩
  refine (Poly_any h3 v3 r (hr.ext (hx1.trans (hx2.trans hx3))) (by omega)).mono ?_
  rintro u3 h4 ⟨hx4, hu3⟩
  have hu1 := hu1.ext (hx3.trans hx4)
  have hu2 := hu2.ext hx4
  have x4 := hx1.trans (hx2.trans (hx3.trans hx4))
  have mulle : ∀ a b : Pol, norm1 a ≤ 512 → norm1 b ≤ 512 → norm1 a * norm1 b ≤ 262144 := fun a b ha hb => Nat.mul_le_mul ha hb
  have mullen : ∀ a b : Pol, a.length ≤ 4 → b.length ≤ 4 → a.length * b.length ≤ 16 := fun a b ha hb => Nat.mul_le_mul ha hb
  have npq := mulle p q (by omega) (by omega)
  have nqp := mulle q p (by omega) (by omega)
  have nqr := mulle q r (by omega) (by omega)
  have npr := mulle p r (by omega) (by omega)
  have lpq := mullen p q hlp hlq
  have lqr := mullen q r hlq hlr
  have lpr := mullen p r hlp hlr
  refine (MulN h4 u1 u2 p q hu1 hu2 (.inl (by omega)) (.inl (by omega)) 3 (by decide) hpB hqB np nq (by omega)).mono ?_
  rintro w1 h5 ⟨hx5, hw1⟩
  refine (MulN h5 u2 u1 q p (hu2.ext hx5) (hu1.ext hx5) (.inl (by omega)) (.inl (by omega)) 3 (by decide) hqB hpB nq np (by omega)).mono ?_
  rintro w2 h6 ⟨hx6, hw2⟩
  have mL := pmul_l4 hLp hLq
  rw [← nrm_congr mL (pmul_l4 hLq hLp) (pmul_comm p q)] at hw2
  have mc := nrm_canon mL
  have mn := nrm_norm (pmulP p q)
  rw [norm1_pmul, len_pmul] at mn
  have mB : ExpB (nrm (pmulP p q)) 6 := nrm_expB mL (pmul_expB hpB hqB)
  have me := nrm_eqv (pmulP p q)
  generalize nrm (pmulP p q) = m at *
  refine (equal_any h6 w1 w2 m m (hw1.ext hx6) hw2 (by omega) (by omega) (by omega) (by omega)).mono ?_
  rintro _ h7 ⟨hx7, rfl⟩
  rw [decide_eq_true (rfl : m = m)]
  have x47 := hx5.trans (hx6.trans hx7)
  refine (AddN h7 u1 u2 p q (hu1.ext x47) (hu2.ext x47) (.inl (by omega)) (.inl (by omega)) (by omega)).mono ?_
  rintro w3 h8 ⟨hx8, hw3⟩
  refine (AddN h8 u2 u1 q p (hu2.ext (x47.trans hx8)) (hu1.ext (x47.trans hx8)) (.inl (by omega)) (.inl (by omega)) (by omega)).mono ?_
  rintro w4 h9 ⟨hx9, hw4⟩
  rw [← nrm_congr (hLp.append hLq) (hLq.append hLp) (Eqv.comm p q)] at hw4
  have sn := nrm_norm (p ++ q)
  rw [norm1_append, List.length_append] at sn
  refine (equal_any h9 w3 w4 _ _ (hw3.ext hx9) hw4 (by omega) (by omega) (by omega) (by omega)).mono ?_
  rintro _ h10 ⟨hx10, rfl⟩
  rw [decide_eq_true (rfl : nrm (p ++ q) = nrm (p ++ q))]
  have x410 := x47.trans (hx8.trans (hx9.trans hx10))
  have hw1 := hw1.ext (hx6.trans (hx7.trans (hx8.trans (hx9.trans hx10))))
  have big3 : ∀ a b : Nat, a ≤ 262144 → b ≤ 512 → a * b ≤ 262144 * 512 := fun a b ha hb => Nat.mul_le_mul ha hb
  have hmr := big3 (norm1 m) (norm1 r) (by omega) (by omega)
  refine (MulN h10 w1 u3 m r hw1 (hu3.ext x410) (.inl (by omega)) (.inl (by omega)) 6 (by decide) mB (hrB.mono (by decide)) (by omega) nr (by omega)).mono ?_
  rintro w5 h11 ⟨hx11, hw5⟩
  refine (MulN h11 u2 u3 q r (hu2.ext (x410.trans hx11)) (hu3.ext (x410.trans hx11)) (.inl (by omega)) (.inl (by omega)) 3 (by decide) hqB hrB nq nr (by omega)).mono ?_
  rintro w6 h12 ⟨hx12, hw6⟩
  have kL := pmul_l4 hLq hLr
  have kc := nrm_canon kL
  have kn := nrm_norm (pmulP q r)
  rw [norm1_pmul, len_pmul] at kn
  have kB : ExpB (nrm (pmulP q r)) 6 := nrm_expB kL (pmul_expB hqB hrB)
  have ke := nrm_eqv (pmulP q r)
  generalize nrm (pmulP q r) = k at *
  have hpk := big3 (norm1 k) (norm1 p) (by omega) (by omega)
  rw [Nat.mul_comm] at hpk
  refine (MulN h12 u1 w6 p k (hu1.ext (x410.trans (hx11.trans hx12))) hw6 (.inl (by omega)) (.inl (by omega)) 6 (by decide) (hpB.mono (by decide)) kB np (by omega) (by omega)).mono ?_
  rintro w7 h13 ⟨hx13, hw7⟩
  have assoc : nrm (pmulP p k) = nrm (pmulP m r) := nrm_congr (pmul_l4 hLp kc.l4) (pmul_l4 mc.l4 hLr) (((Eqv.rfl (p := p)).pmul ke).trans ((Eqv.of_eq (pmul_assoc p q r).symm).trans (me.symm.pmul Eqv.rfl)))
  rw [assoc] at hw7
  have an := nrm_norm (pmulP m r)
  rw [norm1_pmul, len_pmul] at an
  have hlmr : m.length * r.length ≤ 16 * 4 := Nat.mul_le_mul (by omega) hlr
  refine (equal_any h13 w5 w7 _ _ (hw5.ext (hx12.trans hx13)) hw7 (by omega) (by omega) (by omega) (by omega)).mono ?_
  rintro _ h14 ⟨hx14, rfl⟩
  rw [decide_eq_true (rfl : nrm (pmulP m r) = nrm (pmulP m r))]
  have x1014 := hx11.trans (hx12.trans (hx13.trans hx14))
  have x414 := x410.trans x1014
  have hw1 := hw1.ext x1014
  have hu1 := hu1.ext x414
  have hu2 := hu2.ext x414
  have hu3 := hu3.ext x414
  refine (AddN h14 u2 u3 q r hu2 hu3 (.inl (by omega)) (.inl (by omega)) (by omega)).mono ?_
  rintro w8 h15 ⟨hx15, hw8⟩
  have tL := hLq.append hLr
  have tn := nrm_norm (q ++ r)
  rw [norm1_append, List.length_append] at tn
  have tB : ExpB (nrm (q ++ r)) 3 := nrm_expB tL (hqB.append hrB)
  have te := nrm_eqv (q ++ r)
  have tc := nrm_canon tL
  generalize nrm (q ++ r) = t at *
  have hpt : norm1 p * norm1 t ≤ 512 * 1024 := Nat.mul_le_mul (by omega) (by omega)
  refine (MulN h15 u1 w8 p t (hu1.ext hx15) hw8 (.inl (by omega)) (.inl (by omega)) 3 (by decide) hpB tB np (by omega) (by omega)).mono ?_
  rintro w9 h16 ⟨hx16, hw9⟩
  refine (MulN h16 u1 u3 p r (hu1.ext (hx15.trans hx16)) (hu3.ext (hx15.trans hx16)) (.inl (by omega)) (.inl (by omega)) 3 (by decide) hpB hrB np nr (by omega)).mono ?_
  rintro w10 h17 ⟨hx17, hw10⟩
  have jL := pmul_l4 hLp hLr
  have jc := nrm_canon jL
  have jn := nrm_norm (pmulP p r)
  rw [norm1_pmul, len_pmul] at jn
  have je := nrm_eqv (pmulP p r)
  generalize nrm (pmulP p r) = j at *
  refine (AddN h17 w1 w10 m j (hw1.ext (hx15.trans (hx16.trans hx17))) hw10 (.inl (by omega)) (.inl (by omega)) (by omega)).mono ?_
  rintro w11 h18 ⟨hx18, hw11⟩
  have distr : nrm (pmulP p t) = nrm (m ++ j) := nrm_congr (pmul_l4 hLp tc.l4) (mc.l4.append jc.l4) (((Eqv.rfl (p := p)).pmul te).trans ((pmul_add p q r).trans (me.symm.append je.symm)))
  rw [distr] at hw9
  have dn := nrm_norm (m ++ j)
  rw [norm1_append, List.length_append] at dn
  refine (equal_any h18 w9 w11 _ _ (hw9.ext (hx17.trans hx18)) hw11 (by omega) (by omega) (by omega) (by omega)).mono ?_
  rintro _ h19 ⟨hx19, rfl⟩
  rw [decide_eq_true (rfl : nrm (m ++ j) = nrm (m ++ j))]
  have x1419 := hx15.trans (hx16.trans (hx17.trans (hx18.trans hx19)))
  have hu1 := hu1.ext x1419
  have hu2 := hu2.ext x1419
  refine (SubN h19 u1 u1 p p hu1 hu1 (.inl (by omega)) (.inl (by omega)) (by omega)).mono ?_
  rintro w12 h20 ⟨hx20, hw12⟩
  have hz : nrm (p ++ negP p) = [] := nrm_congr (hLp.append hLp.neg) (fun _ h => (List.not_mem_nil h).elim) (Eqv.cancel p) (q := [])
  rw [hz] at hw12
  obtain ⟨wa, wcap, rfl, -⟩ := hw12
  refine (num_any h20 1 (by decide)).mono ?_
  rintro w13 h21 ⟨hx21, hw13⟩
  refine (MulN h21 u1 w13 p (conP 1) (hu1.ext (hx20.trans hx21)) hw13 (.inl (by omega)) (.inl (by decide)) 3 (by decide) hpB (conP_expB _ _) np (by decide) (by rw [show norm1 (conP 1) = 1 from rfl]; omega)).mono ?_
  rintro w14 h22 ⟨hx22, hw14⟩
  rw [pmul_one hLp] at hw14
  have x1922 := hx20.trans (hx21.trans hx22)
  refine (NormalN h22 u1 p (hu1.ext x1922) (.inl (by omega)) np).mono ?_
  rintro w15 h23 ⟨hx23, hw15⟩
  have pn := nrm_norm p
  refine (equal_any h23 w14 w15 _ _ (hw14.ext hx23) hw15 (by omega) (by omega) (by omega) (by omega)).mono ?_
  rintro _ h24 ⟨hx24, rfl⟩
  rw [decide_eq_true (rfl : nrm p = nrm p)]
  have x1924 := x1922.trans (hx23.trans hx24)
  have hu1 := hu1.ext x1924
  have hu2 := hu2.ext x1924
  have hw1 := hw1.ext (x1419.trans x1924)
  have cp := nrm_canon hLp
  have cq := nrm_canon hLq
  have Bp := nrm_expB hLp hpB
  have mq : Eqv m (pmulP (nrm p) (nrm q)) := me.trans ((nrm_eqv p).symm.pmul (nrm_eqv q).symm)
  refine (ExactN 3 6 262144 512 (by decide) (by decide) h24 w1 u2 m q hw1 hu2 mB (hqB.mono (by decide)) (by omega) (by omega) (by omega) (by omega) (by decide) ?_ (by decide +kernel) (by decide) (by decide)).mono ?_
  · rw [nrm_self mc]
    intro fh gh hfh hgh i hi
    have hpn : nrm p ≠ [] := fun e => by
      rw [e] at mq
      obtain ⟨-, s, hs, -⟩ := hfh.2 0 (by decide)
      have := mc.cf_term s hs
      rw [mq] at this
      exact mc.nz s hs this.symm
    obtain ⟨wh, hwh⟩ := hi_exists cp hpn
    have h1 := prod_hi mc cp cq mq hfh hwh hgh hi
    have h2 := hwh.le cp.l4 Bp hi
    omega
  rw [nrm_self mc]
  rintro _ h25 ⟨hx25, w16, d, ok, rfl, hd, hex⟩
  refine (NormalN h25 u2 q (hu2.ext hx25) (.inl (by omega)) nq).mono ?_
  rintro w17 h26 ⟨hx26, hw17⟩
  obtain ⟨qa, qcap, rfl, -⟩ := hw17
  have x426 := (x4.trans x414).trans (x1419.trans (x1924.trans (hx25.trans hx26)))
  refine bsp.dec (p := ((nrm q).length : Int) = 0) (fun hq0 => ?_) (fun hq0 => ?_)
  · have hqn : nrm q = [] := List.eq_nil_of_length_eq_zero (by omega)
    cases ok
    · obtain rfl := (hex.2 rfl).1
      obtain ⟨da, dcap, rfl, -⟩ := hd
      exact ⟨x426, rfl⟩
    · exact absurd hqn (hex.1 rfl).1
  · have hqn : nrm q ≠ [] := fun e => hq0 (by rw [e]; rfl)
    cases ok
    · exact absurd ⟨cp, mq⟩ ((hex.2 rfl).2 hqn (nrm p))
    · have hde : d = nrm p := pmul_cancel (hex.1 rfl).2.1.1 cp cq hqn ((Eqv.symm (p := m) (hex.1 rfl).2.1.2).trans mq)
      rw [hde] at hd
      refine (NormalN h26 u1 p (hu1.ext (hx25.trans hx26)) (.inl (by omega)) np).mono ?_
      rintro w18 h27 ⟨hx27, hw18⟩
      refine (equal_any h27 w16 w18 _ _ (hd.ext (hx26.trans hx27)) hw18 (by omega) (by omega) (by omega) (by omega)).mono ?_
      rintro _ h28 ⟨hx28, rfl⟩
      rw [decide_eq_true (rfl : nrm p = nrm p)]
      exact ⟨x426.trans (hx27.trans hx28), rfl⟩
end Go.Vc
