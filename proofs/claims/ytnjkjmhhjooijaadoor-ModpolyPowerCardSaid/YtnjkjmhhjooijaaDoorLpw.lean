/- Powers: the statement. -/
import Derived.Test.YtnjkjmhhjooijaaDoorLsq
import Derived.Test.YtnjkjmhhjooijaaDoorRd
namespace Go.Vc

theorem fx_ne {p : Nat} [Pr p] {g : List Nat} (h : nf p g ≠ []) : (fx (p := p) g) ≠ 0 := fun e => h (congrArg Fx.l e)
theorem pow_fx {p : Nat} [Pr p] {f g : List Nat} (h : nf p g ≠ []) (n : Nat) : powM p (nf p f) n (nf p g) = (Fx.rem (Cr.pw (fx (p := p) f) n) (fx g)).l := Fx.powM_eq (f := fx f) (fx_ne h) n
theorem rem_fx {p : Nat} [Pr p] {f g : List Nat} (h : nf p g ≠ []) : remM p (nf p f) (nf p g) = (Fx.rem (fx (p := p) f) (fx g)).l := (Fx.rem_l (a := fx f) (fx_ne h)).symm

set_option maxHeartbeats 3200000 in
theorem ModpolyPower_any (h : Heap) (hT : TabOk h) (v w : Value) (f g : List Nat) (i j n : Nat) (hf : Nums .u32 h v f) (hg : Nums .u32 h w g) (hdf : Dg f) (hdg : Dg g) (hi : i < 65536) (hj : j < 65536) (hn : n < 65536) :
    Spec E.P f_cylinderlaw10_ModpolyPower #[v, w, .agg #[vnum .u16 i, vnum .u16 j, vnum .u16 n]] h (fun v' h' => Ext h h' ∧ v' = .bool true) := by
  refine Spec.intro hE (args := [_, _, _]) F_cylinderlaw10_ModpolyPower rfl rfl (Nat.le_of_ble_eq_true rfl) ?_
  refine DNew.intro ?_
  intro tb h0 htb hx0 hs0 hg0'
  have hw0 : Whole h0 tb 63 [vnum .u16 i, vnum .u16 j, vnum .u16 n] := hg0'
  refine (fit_any h0).mono ?_
  rintro _ h1 ⟨hx1, rfl⟩
  have hf0 := hf
  have hg0 := hg
  obtain ⟨a, cap, rfl, -⟩ := hf
  obtain ⟨b, cap2, rfl, -⟩ := hg
  refine ⟨⟨rfl, by decide, rfl, rfl, rfl, rfl, trivial⟩, ?_⟩
  refine DNew.intro ?_
  intro lb h2 hlb hx2 hs2 hg2
  refine (few_any h2 lb t_sl_uint32 [.slice a f.length cap, .slice b g.length cap2] [f.length, g.length] hg2 rfl (fun i h1 h2 => ?_) (by simp)).mono ?_
  · match i, h1 with
    | 0, _ => exact ⟨a, cap, rfl⟩
    | 1, _ => exact ⟨b, cap2, rfl⟩
  rintro _ h2 ⟨rfl, r, rfl, hr⟩
  have x02 := hx0.trans (hx1.trans hx2)
  cases r
  · exact ⟨x02, rfl⟩
  have hlf : f.length ≤ 12 := hr rfl _ (by simp)
  have hlg : g.length ≤ 12 := hr rfl _ (by simp)
  have hw2 := hw0.ext (hx1.trans hx2)
  refine DIdx.intro 2 rfl rfl (by decide) ?_
  refine DLoad.scalar (hw2.get 2 rfl) ?_
  refine DWrap.eq (m := ((n % 256 : Nat) : Int)) (by rw [IntKind.wrap_u8]; omega) ?_
  refine (small_any h2 (n % 256) (by omega)).mono ?_
  rintro _ h3 ⟨hx3, rfl⟩
  have hmem := small_mem (n % 256)
  generalize co smallL (n % 256 % 6) = p at hmem
  have hp := fld_small hmem
  have hp13 := small_lt hmem
  have : Pr p := ⟨hp⟩
  have hp2 := hp.two
  have x03 := x02.trans hx3
  have hw3 := hw2.ext hx3
  have pr := fun h' (x : Ext h h') => isPrime_small h' (hT.ext x) p hmem
  refine DDraw.intro hE (.take 0 (.take 3 (.take 1 (.take 2 (.take 4 (.take 5 (.take 6 (.take 7 .done)))))))) none (· = h3) (by kernel_rfl) rfl ?_
  refine DIdx.intro 0 rfl rfl (by decide) ?_
  refine DIdx.intro 1 rfl rfl (by decide) ?_
  refine QLoad.scalar (fun _ e => by rw [e]; exact hw3.get 0 rfl) ?_
  refine DWrap.eq (m := (i : Int)) (by rw [IntKind.wrap_u64]; omega) ?_
  refine QLoad.scalar (fun _ e => by rw [e]; exact hw3.get 1 rfl) ?_
  refine DWrap.eq (m := (j : Int)) (by rw [IntKind.wrap_u64]; omega) ?_
  have hj2 : IntKind.wrap .u64 ((i : Int) + (j : Int)) = ((i + j : Nat) : Int) := by rw [IntKind.wrap_u64]; omega
  have four : ∀ h', Prm 4 h' false := fun h' => isPrime_div h' 4 0 (by decide) (by decide) (by decide) (by decide) (by decide)
  by_cases hgn : nf p g = []
  · refine (PowMod_zero h3 _ _ f g i p (hf0.ext x03) (hg0.ext x03) hdf hdg hp (pr _ x03) hgn (by omega) (by omega)).mono ?_
    rintro _ h4 ⟨hx4, rfl⟩
    have x04 := x03.trans hx4
    refine (PowMod_zero h4 _ _ f g j p (hf0.ext x04) (hg0.ext x04) hdf hdg hp (pr _ x04) hgn (by omega) (by omega)).mono ?_
    rintro _ h5 ⟨hx5, rfl⟩
    have x05 := x04.trans hx5
    refine DWrap.eq hj2 ?_
    refine (PowMod_zero h5 _ _ f g (i + j) p (hf0.ext x05) (hg0.ext x05) hdf hdg hp (pr _ x05) hgn (by omega) (by omega)).mono ?_
    rintro _ h6 ⟨hx6, rfl⟩
    have x06 := x05.trans hx6
    refine (PowMod_no h6 _ _ i 4 (four h6)).mono ?_
    rintro _ h6 ⟨rfl, rfl⟩
    have hco := coefs_any h6 _ g p (hg0.ext x06) hdg hp.lt (by omega)
    rw [hp.mx, show cnf p g.length (co g) = [] from hgn] at hco
    refine hco.mono ?_
    rintro v7 h7 ⟨hx7, hv7⟩
    obtain ⟨ga, gcap, rfl, -⟩ := hv7
    exact ⟨x06.trans hx7, rfl⟩
  have hG : (fx (p := p) g) ≠ 0 := fx_ne hgn
  have lG : (fx (p := p) g).l.length ≤ 12 := by have := nf_len p g; exact Nat.le_trans this hlg
  have lr : ∀ a : Fx p, (Fx.rem a (fx g)).l.length ≤ 12 := fun a => by
    have := (Fx.quo_rem a hG).2
    unfold Fx.n at this
    omega
  have dgl : ∀ a : Fx p, Dg a.l := fun a => a.can.dgp hp
  have hs : ∀ a : Fx p, nf p a.l = a.l := fun a => nf_self hp a.can
  refine (PowMod_yes h3 _ _ f g i p (hf0.ext x03) (hg0.ext x03) hdf hdg hp (pr _ x03) hgn (by omega) (by omega) (by omega)).mono ?_
  rintro _ h4 ⟨hx4, va, rfl, hva⟩
  have x04 := x03.trans hx4
  refine (PowMod_yes h4 _ _ f g j p (hf0.ext x04) (hg0.ext x04) hdf hdg hp (pr _ x04) hgn (by omega) (by omega) (by omega)).mono ?_
  rintro _ h5 ⟨hx5, vb, rfl, hvb⟩
  have x05 := x04.trans hx5
  refine DWrap.eq hj2 ?_
  refine (PowMod_yes h5 _ _ f g (i + j) p (hf0.ext x05) (hg0.ext x05) hdf hdg hp (pr _ x05) hgn (by omega) (by omega) (by omega)).mono ?_
  rintro _ h6 ⟨hx6, vc, rfl, hvc⟩
  have x06 := x05.trans hx6
  refine (PowMod_no h6 _ _ i 4 (four h6)).mono ?_
  rintro _ h6 ⟨rfl, rfl⟩
  have hco := coefs_any h6 _ g p (hg0.ext x06) hdg hp.lt (by omega)
  rw [hp.mx] at hco
  refine hco.mono ?_
  rintro v7 h7 ⟨hx7, hv7⟩
  have x07 := x06.trans hx7
  have hln : (cnf p g.length (co g)).length ≠ 0 := fun e => hgn (List.length_eq_zero_iff.1 e)
  obtain ⟨ga, gcap, rfl, -⟩ := hv7
  refine bsp.no (b := (((cnf p g.length (co g)).length : Int) == 0)) (by simp; omega) ?_
  rw [pow_fx hgn] at hva hvb hvc
  have hva := hva.ext (hx5.trans (hx6.trans hx7))
  have hvb := hvb.ext (hx6.trans hx7)
  have hvc := hvc.ext hx7
  have hm1 := modMul2_any h7 va vb _ _ p hva hvb (dgl _) (dgl _) hp.lt (by have := lr (Cr.pw (fx f) i); omega) (by have := lr (Cr.pw (fx f) j); omega)
  rw [hp.mx, ← Fx.mul_l] at hm1
  refine hm1.mono ?_
  rintro v8 h8 ⟨hx8, hv8⟩
  have x08 := x07.trans hx8
  have l8 : (Fx.rem (Cr.pw (fx (p := p) f) i) (fx g) * Fx.rem (Cr.pw (fx f) j) (fx g)).l.length ≤ (Fx.rem (Cr.pw (fx (p := p) f) i) (fx g)).l.length + (Fx.rem (Cr.pw (fx (p := p) f) j) (fx g)).l.length := cnf_len _ _ _
  have l81 := lr (Cr.pw (fx f) i)
  have l82 := lr (Cr.pw (fx f) j)
  refine (Divide_yes h8 v8 _ _ g p hv8 (hg0.ext x08) (dgl _) hdg hp (pr _ x08) hgn (by omega) (by omega)).mono ?_
  rintro _ h9 ⟨hx9, vq, vr, rfl, -, hvr⟩
  have x09 := x08.trans hx9
  rw [hs, ← fx_l g, ← Fx.rem_l hG, Fx.rem_mul hG, ← Cr.pw_add] at hvr
  refine ⟨⟨rfl, by decide, rfl, rfl, trivial⟩, ?_⟩
  refine DNew.intro ?_
  intro ob h10 hob hx10 hs10 hg10
  have hone : Nums .u32 h10 (.slice (some ⟨ob, 0, none⟩) 1 1) [1] := Whole.nums (e := t_uint32) hg10 rfl
  have x010 := x09.trans hx10
  have h1l : [1] = (1 : Fx p).l := rfl
  rw [h1l] at hone
  refine (Divide_yes h10 _ _ _ g p hone (hg0.ext x010) (dgl _) hdg hp (pr _ x010) hgn (show 1 < 1000000 by decide) (by omega)).mono ?_
  rintro _ h11 ⟨hx11, wq, wr, rfl, -, hwr⟩
  have x011 := x010.trans hx11
  rw [hs, ← fx_l g, ← Fx.rem_l hG] at hwr
  refine (PowMod_yes h11 _ _ f g 0 p (hf0.ext x011) (hg0.ext x011) hdf hdg hp (pr _ x011) hgn (by omega) (by omega) (by omega)).mono ?_
  rintro _ h12 ⟨hx12, vz, rfl, hvz⟩
  have x012 := x011.trans hx12
  refine (PowMod_yes h12 _ _ f g 1 p (hf0.ext x012) (hg0.ext x012) hdf hdg hp (pr _ x012) hgn (by omega) (by omega) (by omega)).mono ?_
  rintro _ h13 ⟨hx13, vf, rfl, hvf⟩
  have x013 := x012.trans hx13
  rw [pow_fx hgn] at hvz hvf
  refine (Divide_yes h13 _ _ f g p (hf0.ext x013) (hg0.ext x013) hdf hdg hp (pr _ x013) hgn (by omega) (by omega)).mono ?_
  rintro _ h14 ⟨hx14, uq, ur, rfl, -, hur⟩
  have x014 := x013.trans hx14
  rw [rem_fx hgn] at hur
  have e1 : Cr.pw (fx (p := p) f) 1 = fx f := Cr.one_mul _
  rw [e1] at hvf
  have same : ∀ (h' : Heap) (x y : Value) (a : Fx p), Nums .u32 h' x (Fx.rem a (fx g)).l → Nums .u32 h' y (Fx.rem a (fx g)).l → Spec E.P f_modpoly_Same #[x, y, vnum .u32 p] h' (fun v' h'' => Ext h' h'' ∧ v' = .bool true) := fun h' x y a hx hy => by
    have := lr a
    refine (modSame_any h' x y _ _ p hx hy (dgl _) (dgl _) hp.lt (by omega) (by omega)).mono ?_
    rintro _ h'' ⟨hx, rfl⟩
    rw [decide_eq_true rfl]
    exact ⟨hx, rfl⟩
  have hcan := canonical_any h14 vc _ p (hvc.ext (hx8.trans (hx9.trans (hx10.trans (hx11.trans (hx12.trans (hx13.trans hx14))))))) (dgl _) hp.lt (by have := lr (Cr.pw (fx f) (i + j)); omega)
  rw [hp.mx, show cnf p _ (co (Fx.rem (Cr.pw (fx (p := p) f) (i + j)) (fx g)).l) = _ from hs _, decide_eq_true rfl] at hcan
  refine hcan.mono ?_
  rintro _ h15 ⟨hx15, rfl⟩
  have y8 := hx9.trans (hx10.trans (hx11.trans (hx12.trans (hx13.trans (hx14.trans hx15)))))
  refine (same h15 vr vc _ (hvr.ext (hx10.trans (hx11.trans (hx12.trans (hx13.trans (hx14.trans hx15)))))) (hvc.ext (hx8.trans y8))).mono ?_
  rintro _ h16 ⟨hx16, rfl⟩
  refine (same h16 vz wr _ (hvz.ext (hx13.trans (hx14.trans (hx15.trans hx16)))) (hwr.ext (hx12.trans (hx13.trans (hx14.trans (hx15.trans hx16)))))).mono ?_
  rintro _ h17 ⟨hx17, rfl⟩
  refine (same h17 vf ur _ (hvf.ext (hx14.trans (hx15.trans (hx16.trans hx17)))) (hur.ext (hx15.trans (hx16.trans hx17)))).mono ?_
  rintro _ h18 ⟨hx18, rfl⟩
  exact ⟨x014.trans (hx15.trans (hx16.trans (hx17.trans hx18))), rfl⟩
end Go.Vc
