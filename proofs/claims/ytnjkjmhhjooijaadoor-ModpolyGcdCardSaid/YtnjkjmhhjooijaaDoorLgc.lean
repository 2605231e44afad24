/- Greatest common divisors: the statement. -/
import Derived.Test.YtnjkjmhhjooijaaDoorKd
namespace Go.Vc
open Fx

set_option maxHeartbeats 6400000 in
theorem ModpolyGcd_any (h : Heap) (hT : TabOk h) (v0 v1 v2 : Value) (f0 f1 f2 : List Nat) (n : Nat) (h0 : Nums .u32 h v0 f0) (h1 : Nums .u32 h v1 f1) (h2 : Nums .u32 h v2 f2) (d0 : Dg f0) (d1 : Dg f1) (d2 : Dg f2) (hn : n < 256) :
    Spec E.P f_cylinderlaw10_ModpolyGcd #[.agg #[v0, v1, v2], vnum .u8 n] h (fun v' h' => Ext h h' ∧ v' = .bool true) := by
  refine Spec.intro hE (args := [_, _]) F_cylinderlaw10_ModpolyGcd rfl rfl (Nat.le_of_ble_eq_true rfl) ?_
  have h00 := h0
  have h10 := h1
  have h20 := h2
  obtain ⟨a0, c0, rfl, -⟩ := h0
  obtain ⟨a1, c1, rfl, -⟩ := h1
  obtain ⟨a2, c2, rfl, -⟩ := h2
  refine DNew.intro ?_
  intro tb hh0 htb hx0 hs0 hg0'
  have hw0 : Whole hh0 tb 69 [.slice a0 f0.length c0, .slice a1 f1.length c1, .slice a2 f2.length c2] := hg0'
  refine (fit_any hh0).mono ?_
  rintro _ hh1 ⟨hx1, rfl⟩
  have hw1 := hw0.ext hx1
  refine DIdx.intro 0 rfl rfl (by decide) ?_
  refine DLoad.scalar (hw1.get 0 rfl) ?_
  refine DIdx.intro 1 rfl rfl (by decide) ?_
  refine DLoad.scalar (hw1.get 1 rfl) ?_
  refine DIdx.intro 2 rfl rfl (by decide) ?_
  refine DLoad.scalar (hw1.get 2 rfl) ?_
  refine ⟨⟨rfl, by decide, rfl, rfl, rfl, rfl, rfl, rfl, trivial⟩, ?_⟩
  refine DNew.intro ?_
  intro lb hh2 hlb hx2 hs2 hg2
  refine (few_any hh2 lb t_sl_uint32 [.slice a0 f0.length c0, .slice a1 f1.length c1, .slice a2 f2.length c2] [f0.length, f1.length, f2.length] hg2 rfl (fun i h1 h2 => ?_) (by simp)).mono ?_
  · match i, h1 with
    | 0, _ => exact ⟨a0, c0, rfl⟩
    | 1, _ => exact ⟨a1, c1, rfl⟩
    | 2, _ => exact ⟨a2, c2, rfl⟩
  rintro _ hh2 ⟨rfl, r, rfl, hr⟩
  have x02 := hx0.trans (hx1.trans hx2)
  cases r
  · exact ⟨x02, rfl⟩
  have l0 : f0.length ≤ 12 := hr rfl _ (by simp)
  have l1 : f1.length ≤ 12 := hr rfl _ (by simp)
  have l2 : f2.length ≤ 12 := hr rfl _ (by simp)
  have hw2 := hw1.ext hx2
  refine DDraw.intro hE (.take 0 (.take 2 (.take 3 (.one 1 (.take 4 (.take 5 .done)))))) none (Ext hh2 ·) (by kernel_rfl) Ext.rfl ?_
  refine DIdx.intro 2 rfl rfl (by decide) ?_
  refine QLoad.scalar (fun _ e => e.cell (hw2.get 2 rfl)) ?_
  refine (small_any hh2 n hn).mono ?_
  rintro _ hh3 ⟨hx3, rfl⟩
  refine ⟨hx3, ?_⟩
  have hmem := small_mem n
  generalize co smallL (n % 6) = p at hmem
  have hp := fld_small hmem
  have : Pr p := ⟨hp⟩
  have hp2 := hp.two
  have x03 := x02.trans hx3
  have hw3 := hw2.ext hx3
  have pr := fun h' (x : Ext h h') => isPrime_small h' (hT.ext x) p hmem
  refine DDraw.intro hE (.take 0 (.take 2 (.take 3 (.take 5 (.take 7 (.take 8 (.take 1 (.take 6 (.one 4 (.one 9 (.take 10 (.take 11 .done)))))))))))) none (Ext hh3 ·) (by kernel_rfl) Ext.rfl ?_
  refine DIdx.intro 0 rfl rfl (by decide) ?_
  refine DIdx.intro 1 rfl rfl (by decide) ?_
  refine QLoad.scalar (fun _ e => e.cell (hw3.get 0 rfl)) ?_
  refine QLoad.scalar (fun _ e => e.cell (hw3.get 1 rfl)) ?_
  have hm1 := modMul2_any hh3 _ _ f0 f2 p (h00.ext x03) (h20.ext x03) d0 d2 hp.lt (by omega) (by omega)
  rw [hp.mx, ← mulM_nf] at hm1
  refine hm1.mono ?_
  rintro fv hh4 ⟨hx4, hF⟩
  have x04 := x03.trans hx4
  refine ⟨hx4, ?_⟩
  have hm2 := modMul2_any hh4 _ _ f1 f2 p (h10.ext x04) (h20.ext x04) d1 d2 hp.lt (by omega) (by omega)
  rw [hp.mx, ← mulM_nf] at hm2
  refine hm2.mono ?_
  rintro gv hh5 ⟨hx5, hG⟩
  have x05 := x04.trans hx5
  refine ⟨hx4.trans hx5, ?_⟩
  have hF : Fx.At hh5 fv (fx (p := p) f0 * fx f2) := hF.ext hx5
  have hG : Fx.At hh5 gv (fx (p := p) f1 * fx f2) := hG
  have lH : (fx (p := p) f2).n ≤ 12 := Nat.le_trans (nf_len p f2) l2
  have lF : (fx (p := p) f0 * fx f2).n ≤ 24 := by
    have := n_mul_le (fx (p := p) f0) (fx f2)
    have : (fx (p := p) f0).n ≤ 12 := Nat.le_trans (nf_len p f0) l0
    omega
  have lG : (fx (p := p) f1 * fx f2).n ≤ 24 := by
    have := n_mul_le (fx (p := p) f1) (fx f2)
    have : (fx (p := p) f1).n ≤ 12 := Nat.le_trans (nf_len p f1) l1
    omega
  have dF : fx (p := p) f2 ∣ fx f0 * fx f2 := Cr.dvd_mul_left _ (Cr.dvd_refl _)
  have dG : fx (p := p) f2 ∣ fx f1 * fx f2 := Cr.dvd_mul_left _ (Cr.dvd_refl _)
  generalize hFe : fx (p := p) f0 * fx f2 = F at *
  generalize hGe : fx (p := p) f1 * fx f2 = G at *
  have hHn : (fx (p := p) f2).n = (nf p f2).length := rfl
  generalize hHe : fx (p := p) f2 = H at *
  have hg := Gcd_yes hh5 fv gv F.l G.l p hF hG (F.can.dgp hp) (G.can.dgp hp) hp (pr _ x05) (by unfold Fx.n at lF; omega) (by unfold Fx.n at lG; omega)
  rw [nf_self hp F.can, nf_self hp G.can] at hg
  refine hg.mono ?_
  rintro _ hh6 ⟨hx6, dv, rfl, hd⟩
  have hd : Fx.At hh6 dv (gcd F G) := hd
  have x06 := x05.trans hx6
  refine (Xgcd_any hh6 fv gv F G (hF.ext hx6) (hG.ext hx6) (pr _ x06) (by omega) (by omega)).mono ?_
  rintro _ hh7 ⟨hx7, cv, uv, vv, D, U, V, rfl, hc, hu, hv, X⟩
  have hF := hF.ext (hx6.trans hx7)
  have hG := hG.ext (hx6.trans hx7)
  have hd := hd.ext hx7
  have x07 := x06.trans hx7
  rw [X.is] at hc
  have hXis := X.is
  subst hXis
  have lD : (gcd F G).n ≤ 24 := by
    by_cases h : F = 0 ∧ G = 0
    · rw [h.1, h.2, gcd_zero, monic_zero, n_zero.2 rfl]; omega
    · by_cases hf : F = 0
      · have := n_dvd (fun e => h ⟨hf, e⟩) (gcd_spec F G).2.1; omega
      · have := n_dvd hf (gcd_spec F G).1; omega
  have hcan := canonical_any hh7 dv _ p hd ((gcd F G).can.dgp hp) hp.lt (by unfold Fx.n at lD; omega)
  rw [hp.mx, show cnf p _ (co (gcd F G).l) = _ from nf_self hp (gcd F G).can, decide_eq_true rfl] at hcan
  refine hcan.mono ?_
  rintro _ hh8 ⟨hx8, rfl⟩
  have same : ∀ (h' : Heap) (x y : Value) (a : Fx p), Nums .u32 h' x a.l → Nums .u32 h' y a.l → a.n ≤ 1000 → Spec E.P f_modpoly_Same #[x, y, vnum .u32 p] h' (fun v' h'' => Ext h' h'' ∧ v' = .bool true) := fun h' x y a hx hy hl => by
    refine (modSame_any h' x y _ _ p hx hy (a.can.dgp hp) (a.can.dgp hp) hp.lt (by unfold Fx.n at hl; omega) (by unfold Fx.n at hl; omega)).mono ?_
    rintro _ h'' ⟨hx, rfl⟩
    rw [decide_eq_true rfl]
    exact ⟨hx, rfl⟩
  refine (same hh8 cv dv _ (hc.ext hx8) (hd.ext hx8) (by omega)).mono ?_
  rintro _ hh9 ⟨hx9, rfl⟩
  have x79 := hx8.trans hx9
  have lU := X.lu
  have lV := X.lv
  refine (mulX hh9 uv fv U F (hu.ext x79) (hF.ext x79) (by omega) (by omega)).mono ?_
  rintro m1 hh10 ⟨hx10, hm1⟩
  have x710 := x79.trans hx10
  refine (mulX hh10 vv gv V G (hv.ext x710) (hG.ext x710) (by omega) (by omega)).mono ?_
  rintro m2 hh11 ⟨hx11, hm2⟩
  have k1 := n_mul_le U F
  have k2 := n_mul_le V G
  refine (addX hh11 m1 m2 _ _ (hm1.ext hx11) hm2 (by omega) (by omega)).mono ?_
  rintro m3 hh12 ⟨hx12, hm3⟩
  rw [X.eq] at hm3
  have x712 := x710.trans (hx11.trans hx12)
  refine (same hh12 m3 dv _ hm3 (hd.ext x712) (by omega)).mono ?_
  rintro _ hh13 ⟨hx13, rfl⟩
  have x713 := x712.trans hx13
  have hF := hF.ext x713
  have hG := hG.ext x713
  have hd := hd.ext x713
  have hu := hu.ext x713
  have hv := hv.ext x713
  have x013 := x07.trans x713
  have hF0 := hF
  have hG0 := hG
  have hd0 := hd
  obtain ⟨fa, fcap, rfl, -⟩ := hF
  obtain ⟨ga, gcap, rfl, -⟩ := hG
  obtain ⟨da, dcap, rfl, -⟩ := hd
  obtain ⟨ua, ucap, rfl, -⟩ := hu
  obtain ⟨va, vcap, rfl, -⟩ := hv
  by_cases hz : F = 0 ∧ G = 0
  · obtain ⟨rfl, rfl⟩ := hz
    obtain ⟨rfl, rfl⟩ := X.zero rfl rfl
    have hg0 : gcd (0 : Fx p) 0 = 0 := by rw [gcd_zero, monic_zero]
    rw [hg0]
    exact ⟨x013, rfl⟩
  have hdz : gcd F G ≠ 0 := gcd_ne hz
  have hdn : (gcd F G).l.length ≠ 0 := fun e => hdz (n_zero.1 e)
  have hld : co (gcd F G).l ((gcd F G).l.length - 1) = 1 := ((gcd_monic (a := F) (b := G)).resolve_left hdz).2
  obtain ⟨dFF, dGG, -⟩ := gcd_spec F G
  have lDl : (gcd F G).l.length ≤ 24 := lD
  by_cases hFz : F.l.length = 0
  · have hGz0 : G.l.length ≠ 0 := fun e => hz ⟨n_zero.1 hFz, n_zero.1 e⟩
    refine bsp.yes (b := ((F.l.length : Int) == 0)) (by rw [beq_iff_eq]; omega) ?_
    refine bsp.no (b := ((G.l.length : Int) == 0)) (by rw [beq_eq_false_iff_ne]; omega) ?_
    refine bsp.no (b := (((gcd F G).l.length : Int) == 0)) (by rw [beq_eq_false_iff_ne]; omega) ?_
    obtain ⟨db, doff, rfl, hcell⟩ := hd0.at (i := (gcd F G).l.length - 1) (by omega)
    refine DWrap.is (((gcd F G).l.length - 1 : Nat) : Int) (by omega) (by omega) ?_
    refine DIdx.intro ((gcd F G).l.length - 1) rfl rfl (by omega) ?_
    refine DLoad.scalar hcell ?_
    refine bsp.no (b := ((co (gcd F G).l ((gcd F G).l.length - 1) : Int) != 1)) (by rw [hld]; rfl) ?_
    refine ⟨⟨rfl, by decide, rfl, rfl, rfl, rfl, trivial⟩, ?_⟩
    refine DNew.intro ?_
    intro sb hh14 hsb hx14 hs14 hg14
    have hw14 : Whole hh14 sb 32 [.slice fa F.l.length fcap, .slice ga G.l.length gcap] := hg14
    have each : ∀ i, i < 2 → ∃ (Y : Fx p) (yv : Value), Vc.cell hh14 sb (0 + i) = some yv ∧ Fx.At hh14 yv Y ∧ gcd F G ∣ Y ∧ Y.n ≤ 24 := fun i hi => by
      match i, hi with
      | 0, _ => exact ⟨F, _, hw14.get 0 rfl, hF0.ext hx14, dFF, lF⟩
      | 1, _ => exact ⟨G, _, hw14.get 1 rfl, hG0.ext hx14, dGG, lG⟩
    refine DLoop.intro hE (ι := Nat) (fun i => [(132, .int .i64 i), (131, .int .i64 2), (130, .slice (some ⟨sb, 0, none⟩) 2 2), (5, vnum .u32 p), (6, .slice a2 f2.length c2), (7, .slice fa F.l.length fcap), (8, .slice ga G.l.length gcap), (9, .slice (some ⟨db, doff, none⟩) (gcd F G).l.length dcap), (12, .slice ua U.l.length ucap), (13, .slice va V.l.length vcap)])
      (fun i h' => Ext hh14 h' ∧ i ≤ 2) (fun i => 2 - i) 0 rfl ⟨rfl, rfl, rfl, rfl, rfl, rfl, rfl, rfl, rfl, rfl, trivial⟩ ⟨Ext.rfl, Nat.zero_le _⟩ ?_
    rintro i hh15 ⟨hx15, hi⟩
    have x1315 := hx14.trans hx15
    refine bsp.dec (p := (i : Int) < 2) (fun hlt => ?_) (fun hge => ?_)
    · obtain ⟨Y, yv, hy1, hy2, hy3, hy4⟩ := each i (by omega)
      refine DIdx.intro i rfl rfl (by omega) ?_
      refine DLoad.scalar (hx15.cell hy1) ?_
      have hdv := Divide_yes hh15 yv _ Y.l (gcd F G).l p (hy2.ext hx15) (hd0.ext x1315) (Y.can.dgp hp) ((gcd F G).can.dgp hp) hp (pr _ (x013.trans x1315)) (by rw [nf_self hp (gcd F G).can]; exact l_ne hdz) (by unfold Fx.n at hy4; omega) (by unfold Fx.n at lD; omega)
      rw [nf_self hp (gcd F G).can, nf_self hp Y.can, ← rem_l hdz, (rem_zero hdz).2 hy3] at hdv
      refine hdv.mono ?_
      rintro _ hh16 ⟨hx16, qv, rv, rfl, -, hrv⟩
      obtain ⟨ra, rcap, rfl, -⟩ := hrv
      refine DWrap.is ((i + 1 : Nat) : Int) (by omega) (by omega) ?_
      exact ⟨i + 1, ⟨rfl, rfl, rfl, rfl, rfl, rfl, rfl, rfl, rfl, rfl, trivial⟩, ⟨hx15.trans hx16, by omega⟩, by omega⟩
    refine DJoin.cut hE (ι := Unit) (fun _ => [(7, .slice fa F.l.length fcap), (8, .slice ga G.l.length gcap), (9, .slice (some ⟨db, doff, none⟩) (gcd F G).l.length dcap), (12, .slice ua U.l.length ucap), (13, .slice va V.l.length vcap)]) (fun _ h' => Ext h h') (by kernel_rfl) ?_ ?_
    · have hco := coefs_any hh15 _ f2 p (h20.ext (x013.trans x1315)) d2 hp.lt (by omega)
      rw [hp.mx] at hco
      refine hco.mono ?_
      rintro kv hh16 ⟨hx16, hkv⟩
      obtain ⟨ka, kcap, rfl, -⟩ := hkv
      have x016 := x013.trans (x1315.trans hx16)
      refine bsp.dec (p := ((cnf p f2.length (co f2)).length : Int) > 0) (fun hgt => ?_) (fun hle => ?_)
      · have hHz : H ≠ 0 := fun e => by
          have e0 : H.n = 0 := n_zero.2 e
          have e1 : (nf p f2).length = (cnf p f2.length (co f2)).length := rfl
          omega
        have hHl : nf p f2 = H.l := by rw [← hHe]; rfl
        have hdv := Divide_yes hh16 _ _ (gcd F G).l f2 p (hd0.ext (x1315.trans hx16)) (h20.ext x016) ((gcd F G).can.dgp hp) d2 hp (pr _ x016) (by rw [hHl]; exact l_ne hHz) (by unfold Fx.n at lD; omega) (by omega)
        rw [nf_self hp (gcd F G).can, hHl, ← rem_l hHz, (rem_zero hHz).2 (dvd_gcd dF dG)] at hdv
        refine hdv.mono ?_
        rintro _ hh17 ⟨hx17, qv, rv, rfl, -, hrv⟩
        obtain ⟨ra, rcap, rfl, -⟩ := hrv
        exact ⟨(), ⟨rfl, rfl, rfl, rfl, rfl, trivial⟩, x016.trans hx17⟩
      · exact ⟨(), ⟨rfl, rfl, rfl, rfl, rfl, trivial⟩, x016⟩
    rintro _ hh18 x018
    refine bsp.intro (b := ((G.l.length : Int) == 0)) (fun hb => ?_) (fun hb => ?_)
    · rw [beq_iff_eq] at hb
      have hGz : G = 0 := n_zero.1 (by unfold Fx.n; omega)
      obtain ⟨e1, e2⟩ := X.left (fun e => hz ⟨e, hGz⟩) hGz
      refine bsp.yes (b := ((U.l.length : Int) == 1)) (by rw [beq_iff_eq]; unfold Fx.n at e1; omega) ?_
      refine ⟨x018, ?_⟩
      show Value.bool ((V.l.length : Int) == 0) = _
      rw [e2]; rfl
    rw [beq_eq_false_iff_ne] at hb
    have hGz : G ≠ 0 := fun e => hb (by rw [e]; rfl)
    refine bsp.intro (b := ((G.l.length : Int) == ((gcd F G).l.length : Int))) (fun hc => ?_) (fun hc => ?_)
    · rw [beq_iff_eq] at hc
      obtain ⟨e1, e2⟩ := X.right hGz (by unfold Fx.n; omega)
      refine bsp.yes (b := ((U.l.length : Int) == 0)) (by rw [e1]; rfl) ?_
      refine ⟨x018, ?_⟩
      show Value.bool ((V.l.length : Int) == 1) = _
      unfold Fx.n at e2
      rw [e2]; rfl
    rw [beq_eq_false_iff_ne] at hc
    obtain ⟨e1, e2⟩ := X.rest hGz (by unfold Fx.n; omega)
    have e3 := n_dvd hGz dGG
    unfold Fx.n at e1 e2 e3
    refine DWrap.is ((G.l.length : Int) - ((gcd F G).l.length : Int)) rfl (by unfold Fx.n at lG; omega) ?_
    refine bsp.yes (b := decide ((U.l.length : Int) ≤ (G.l.length : Int) - ((gcd F G).l.length : Int))) (decide_eq_true (by omega)) ?_
    refine DWrap.is ((F.l.length : Int) - ((gcd F G).l.length : Int)) rfl (by unfold Fx.n at lF lD; omega) ?_
    refine ⟨x018, ?_⟩
    show Value.bool (decide _) = Value.bool true
    congr 1
    apply decide_eq_true
    omega

  · refine bsp.no (b := ((F.l.length : Int) == 0)) (by rw [beq_eq_false_iff_ne]; omega) ?_
    refine bsp.no (b := (((gcd F G).l.length : Int) == 0)) (by rw [beq_eq_false_iff_ne]; omega) ?_
    obtain ⟨db, doff, rfl, hcell⟩ := hd0.at (i := (gcd F G).l.length - 1) (by omega)
    refine DWrap.is (((gcd F G).l.length - 1 : Nat) : Int) (by omega) (by omega) ?_
    refine DIdx.intro ((gcd F G).l.length - 1) rfl rfl (by omega) ?_
    refine DLoad.scalar hcell ?_
    refine bsp.no (b := ((co (gcd F G).l ((gcd F G).l.length - 1) : Int) != 1)) (by rw [hld]; rfl) ?_
    refine ⟨⟨rfl, by decide, rfl, rfl, rfl, rfl, trivial⟩, ?_⟩
    refine DNew.intro ?_
    intro sb hh14 hsb hx14 hs14 hg14
    have hw14 : Whole hh14 sb 32 [.slice fa F.l.length fcap, .slice ga G.l.length gcap] := hg14
    have each : ∀ i, i < 2 → ∃ (Y : Fx p) (yv : Value), Vc.cell hh14 sb (0 + i) = some yv ∧ Fx.At hh14 yv Y ∧ gcd F G ∣ Y ∧ Y.n ≤ 24 := fun i hi => by
      match i, hi with
      | 0, _ => exact ⟨F, _, hw14.get 0 rfl, hF0.ext hx14, dFF, lF⟩
      | 1, _ => exact ⟨G, _, hw14.get 1 rfl, hG0.ext hx14, dGG, lG⟩
    refine DLoop.intro hE (ι := Nat) (fun i => [(132, .int .i64 i), (131, .int .i64 2), (130, .slice (some ⟨sb, 0, none⟩) 2 2), (5, vnum .u32 p), (6, .slice a2 f2.length c2), (7, .slice fa F.l.length fcap), (8, .slice ga G.l.length gcap), (9, .slice (some ⟨db, doff, none⟩) (gcd F G).l.length dcap), (12, .slice ua U.l.length ucap), (13, .slice va V.l.length vcap)])
      (fun i h' => Ext hh14 h' ∧ i ≤ 2) (fun i => 2 - i) 0 rfl ⟨rfl, rfl, rfl, rfl, rfl, rfl, rfl, rfl, rfl, rfl, trivial⟩ ⟨Ext.rfl, Nat.zero_le _⟩ ?_
    rintro i hh15 ⟨hx15, hi⟩
    have x1315 := hx14.trans hx15
    refine bsp.dec (p := (i : Int) < 2) (fun hlt => ?_) (fun hge => ?_)
    · obtain ⟨Y, yv, hy1, hy2, hy3, hy4⟩ := each i (by omega)
      refine DIdx.intro i rfl rfl (by omega) ?_
      refine DLoad.scalar (hx15.cell hy1) ?_
      have hdv := Divide_yes hh15 yv _ Y.l (gcd F G).l p (hy2.ext hx15) (hd0.ext x1315) (Y.can.dgp hp) ((gcd F G).can.dgp hp) hp (pr _ (x013.trans x1315)) (by rw [nf_self hp (gcd F G).can]; exact l_ne hdz) (by unfold Fx.n at hy4; omega) (by unfold Fx.n at lD; omega)
      rw [nf_self hp (gcd F G).can, nf_self hp Y.can, ← rem_l hdz, (rem_zero hdz).2 hy3] at hdv
      refine hdv.mono ?_
      rintro _ hh16 ⟨hx16, qv, rv, rfl, -, hrv⟩
      obtain ⟨ra, rcap, rfl, -⟩ := hrv
      refine DWrap.is ((i + 1 : Nat) : Int) (by omega) (by omega) ?_
      exact ⟨i + 1, ⟨rfl, rfl, rfl, rfl, rfl, rfl, rfl, rfl, rfl, rfl, trivial⟩, ⟨hx15.trans hx16, by omega⟩, by omega⟩
    refine DJoin.cut hE (ι := Unit) (fun _ => [(7, .slice fa F.l.length fcap), (8, .slice ga G.l.length gcap), (9, .slice (some ⟨db, doff, none⟩) (gcd F G).l.length dcap), (12, .slice ua U.l.length ucap), (13, .slice va V.l.length vcap)]) (fun _ h' => Ext h h') (by kernel_rfl) ?_ ?_
    · have hco := coefs_any hh15 _ f2 p (h20.ext (x013.trans x1315)) d2 hp.lt (by omega)
      rw [hp.mx] at hco
      refine hco.mono ?_
      rintro kv hh16 ⟨hx16, hkv⟩
      obtain ⟨ka, kcap, rfl, -⟩ := hkv
      have x016 := x013.trans (x1315.trans hx16)
      refine bsp.dec (p := ((cnf p f2.length (co f2)).length : Int) > 0) (fun hgt => ?_) (fun hle => ?_)
      · have hHz : H ≠ 0 := fun e => by
          have e0 : H.n = 0 := n_zero.2 e
          have e1 : (nf p f2).length = (cnf p f2.length (co f2)).length := rfl
          omega
        have hHl : nf p f2 = H.l := by rw [← hHe]; rfl
        have hdv := Divide_yes hh16 _ _ (gcd F G).l f2 p (hd0.ext (x1315.trans hx16)) (h20.ext x016) ((gcd F G).can.dgp hp) d2 hp (pr _ x016) (by rw [hHl]; exact l_ne hHz) (by unfold Fx.n at lD; omega) (by omega)
        rw [nf_self hp (gcd F G).can, hHl, ← rem_l hHz, (rem_zero hHz).2 (dvd_gcd dF dG)] at hdv
        refine hdv.mono ?_
        rintro _ hh17 ⟨hx17, qv, rv, rfl, -, hrv⟩
        obtain ⟨ra, rcap, rfl, -⟩ := hrv
        exact ⟨(), ⟨rfl, rfl, rfl, rfl, rfl, trivial⟩, x016.trans hx17⟩
      · exact ⟨(), ⟨rfl, rfl, rfl, rfl, rfl, trivial⟩, x016⟩
    rintro _ hh18 x018
    refine bsp.intro (b := ((G.l.length : Int) == 0)) (fun hb => ?_) (fun hb => ?_)
    · rw [beq_iff_eq] at hb
      have hGz : G = 0 := n_zero.1 (by unfold Fx.n; omega)
      obtain ⟨e1, e2⟩ := X.left (fun e => hz ⟨e, hGz⟩) hGz
      refine bsp.yes (b := ((U.l.length : Int) == 1)) (by rw [beq_iff_eq]; unfold Fx.n at e1; omega) ?_
      refine ⟨x018, ?_⟩
      show Value.bool ((V.l.length : Int) == 0) = _
      rw [e2]; rfl
    rw [beq_eq_false_iff_ne] at hb
    have hGz : G ≠ 0 := fun e => hb (by rw [e]; rfl)
    refine bsp.intro (b := ((G.l.length : Int) == ((gcd F G).l.length : Int))) (fun hc => ?_) (fun hc => ?_)
    · rw [beq_iff_eq] at hc
      obtain ⟨e1, e2⟩ := X.right hGz (by unfold Fx.n; omega)
      refine bsp.yes (b := ((U.l.length : Int) == 0)) (by rw [e1]; rfl) ?_
      refine ⟨x018, ?_⟩
      show Value.bool ((V.l.length : Int) == 1) = _
      unfold Fx.n at e2
      rw [e2]; rfl
    rw [beq_eq_false_iff_ne] at hc
    obtain ⟨e1, e2⟩ := X.rest hGz (by unfold Fx.n; omega)
    have e3 := n_dvd hGz dGG
    unfold Fx.n at e1 e2 e3
    refine DWrap.is ((G.l.length : Int) - ((gcd F G).l.length : Int)) rfl (by unfold Fx.n at lG; omega) ?_
    refine bsp.yes (b := decide ((U.l.length : Int) ≤ (G.l.length : Int) - ((gcd F G).l.length : Int))) (decide_eq_true (by omega)) ?_
    refine DWrap.is ((F.l.length : Int) - ((gcd F G).l.length : Int)) rfl (by unfold Fx.n at lF lD; omega) ?_
    refine ⟨x018, ?_⟩
    show Value.bool (decide _) = Value.bool true
    congr 1
    apply decide_eq_true
    omega

end Go.Vc
