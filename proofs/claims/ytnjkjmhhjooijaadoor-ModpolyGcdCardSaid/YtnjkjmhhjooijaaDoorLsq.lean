/- Squarefree polynomials: the statement. -/
import Derived.Test.YtnjkjmhhjooijaaDoorNa
import Derived.Test.YtnjkjmhhjooijaaDoorKb
import Derived.Test.YtnjkjmhhjooijaaDoorRc
namespace Go.Vc

theorem co_nf (p : Nat) (f : List Nat) (i : Nat) : co (nf p f) i = co f i % p := by
  rw [co_cnf]
  split
  · rfl
  · rw [co_ge (by omega), Nat.zero_mod]
theorem nf_self {p : Nat} (hp : Fld p) {f : List Nat} (cf : Can p f) : nf p f = f := cf.self (by have := hp.two; omega)
theorem derivM_nf (p : Nat) (f : List Nat) : derivM p (nf p f) = derivM p f := (law_deriv' f).symm where
  law_deriv' (f : List Nat) : derivM p f = derivM p (nf p f) := by
    unfold derivM
    refine cnf_same (fun i hi => by rw [co_ge (f := f) (by omega), Nat.zero_mul, Nat.zero_mod]) (fun i hi => by rw [co_ge (f := nf p f) (by omega), Nat.zero_mul, Nat.zero_mod]) fun i => ?_
    rw [co_nf, Nat.mod_mul_mod]
theorem mulM_nf (p : Nat) (f g : List Nat) : mulM p (nf p f) (nf p g) = mulM p f g := by
  unfold mulM
  refine cnf_same (fun i hi => by rw [conv_ge (by omega), Nat.zero_mod]) (fun i hi => by rw [conv_ge (by omega), Nat.zero_mod]) fun i => ?_
  exact conv_mod (fun i => by rw [co_nf, Nat.mod_mod]) (fun i => by rw [co_nf, Nat.mod_mod]) i
def fx {p : Nat} [hp : Pr p] (f : List Nat) : Fx p := ⟨nf p f, nf_can hp.fld f⟩
theorem fx_l {p : Nat} [Pr p] (f : List Nat) : (fx (p := p) f).l = nf p f := rfl
theorem Fx.mul_l {p : Nat} [Pr p] (a b : Fx p) : (a * b).l = mulM p a.l b.l := rfl
theorem sq_fx {p : Nat} [hp : Pr p] (f g : List Nat) : mulM p f (mulM p g g) = ((fx (p := p) f) * ((fx g) * (fx g))).l := by
  have e1 := mulM_nf p g g
  have e2 := mulM_nf p f (mulM p g g)
  have e3 := nf_self hp.fld (mulM_can hp.fld g g)
  rw [Fx.mul_l, Fx.mul_l, fx_l, fx_l, e1]
  refine e2.symm.trans ?_
  exact congrArg _ e3
theorem sqf_false {p : Nat} [Pr p] (a : Fx p) (h : (Fx.gcd a (Fx.deriv a)).n ≠ 1) : sqfM p a.l = false := decide_eq_false h
theorem fx_n {p : Nat} [Pr p] (f : List Nat) : (fx (p := p) f).n = (nf p f).length := rfl
theorem sq_law {p : Nat} [hp : Pr p] (f g : List Nat) (hg : ¬ (nf p g).length < 2) : sqfM p (nf p (mulM p f (mulM p g g))) = false := by
  have e4 := nf_self hp.fld (mulM_can hp.fld f (mulM p g g))
  have h2 : 2 ≤ (fx (p := p) g).n := by rw [fx_n]; omega
  have h3 := Fx.square_not (f := fx f) h2
  have h4 := sqf_false _ h3
  rw [← sq_fx f g] at h4
  rw [e4]
  exact h4

set_option maxHeartbeats 3200000 in
theorem ModpolySquarefree_any (h : Heap) (hT : TabOk h) (v w : Value) (f g : List Nat) (n : Nat) (hf : Nums .u32 h v f) (hg : Nums .u32 h w g) (hdf : Dg f) (hdg : Dg g) (hn : n < 256) :
    Spec E.P f_cylinderlaw10_ModpolySquarefree #[v, w, vnum .u8 n] h (fun v' h' => Ext h h' ∧ v' = .bool true) := by
  refine Spec.intro hE (args := [_, _, _]) F_cylinderlaw10_ModpolySquarefree rfl rfl (Nat.le_of_ble_eq_true rfl) ?_
  refine (fit_any h).mono ?_
  rintro _ h1 ⟨hx1, rfl⟩
  have hf0 := hf
  have hg0 := hg
  obtain ⟨a, cap, rfl, -⟩ := hf
  obtain ⟨b, cap2, rfl, -⟩ := hg
  refine ⟨⟨rfl, by decide, rfl, rfl, rfl, rfl, trivial⟩, ?_⟩
  refine DNew.intro ?_
  intro lb h2 hlb hx2 hs2 hg2
  refine (few_any h2 lb t_sl_uint32 [.slice a f.length cap, .slice b g.length cap2] [f.length, g.length] hg2 rfl (fun i h1 h2 => ?_) (by simp)).mono ?_
  · match i, h1 with
    | 0, _ => exact ⟨a, cap, rfl⟩
    | 1, _ => exact ⟨b, cap2, rfl⟩
  rintro _ h2 ⟨rfl, r, rfl, hr⟩
  have x02 := hx1.trans hx2
  cases r
  · exact ⟨x02, rfl⟩
  have hlf : f.length ≤ 12 := hr rfl _ (by simp)
  have hlg : g.length ≤ 12 := hr rfl _ (by simp)
  refine (small_any h2 n hn).mono ?_
  rintro _ h3 ⟨hx3, rfl⟩
  have hmem := small_mem n
  generalize co smallL (n % 6) = p at hmem
  have hp := fld_small hmem
  have hp13 := small_lt hmem
  have : Pr p := ⟨hp⟩
  have hp2 := hp.two
  have x03 := x02.trans hx3
  have pr := fun h' (x : Ext h h') => isPrime_small h' (hT.ext x) p hmem
  refine (Squarefree_yes h3 _ f p (hf0.ext x03) hdf hp (pr _ x03) (by omega)).mono ?_
  rintro _ h4 ⟨hx4, rfl⟩
  generalize hS : sqfM p (nf p f) = S
  have x04 := x03.trans hx4
  have hder := modDeriv_any h4 _ f p (hf0.ext x04) hdf hp.lt (by omega)
  rw [hp.mx] at hder
  refine hder.mono ?_
  rintro v5 h5 ⟨hx5, hv5⟩
  have hv5 : Nums .u32 h5 v5 (derivM p f) := hv5
  have x05 := x04.trans hx5
  have ld : (derivM p f).length ≤ f.length - 1 := cnf_len _ _ _
  refine (Gcd_yes h5 _ v5 f _ p (hf0.ext x05) hv5 hdf ((derivM_can hp f).dgp hp) hp (pr _ x05) (by omega) (by omega)).mono ?_
  rintro _ h6 ⟨hx6, u, rfl, hu⟩
  rw [nf_self hp (derivM_can hp f), ← derivM_nf p f] at hu
  have x06 := x05.trans hx6
  have hsq : S = decide ((gcdM p (nf p f) (derivM p (nf p f))).length = 1) := hS.symm
  clear hS
  generalize gcdM p (nf p f) (derivM p (nf p f)) = D at hu hsq
  obtain ⟨da, dcap, rfl, -⟩ := hu
  have hbn : (S != ((D.length : Int) == 1)) = false := by
    rw [hsq]
    by_cases e : D.length = 1
    · rw [e]; rfl
    · have : ((D.length : Int) == 1) = false := by simp; omega
      rw [this, decide_eq_false e]; rfl
  refine bsp.no hbn ?_
  have hpp : p * p ≤ 169 := Nat.mul_le_mul hp13 hp13
  refine DWrap.eq (m := ((p * p : Nat) : Int)) (by rw [IntKind.wrap_u32, ← Int.natCast_mul]; omega) ?_
  refine (Squarefree_no h6 _ (p * p) (isPrime_square h6 (hT.ext x06) p hmem)).mono ?_
  rintro _ h6 ⟨rfl, rfl⟩
  have hco := coefs_any h6 _ g p (hg0.ext x06) hdg hp.lt (by omega)
  rw [hp.mx] at hco
  refine hco.mono ?_
  rintro v7 h7 ⟨hx7, hv7⟩
  have x07 := x06.trans hx7
  have hlt := sq_law (p := p) f g
  have lg := nf_len p g
  obtain ⟨ga, gcap, rfl, -⟩ := hv7
  refine bsp.dec (p := ((cnf p g.length (co g)).length : Int) < 2) (fun hs => ?_) (fun hs => ?_)
  · exact ⟨x07, rfl⟩
  have hm1 := modMul2_any h7 _ _ g g p (hg0.ext x07) (hg0.ext x07) hdg hdg hp.lt (by omega) (by omega)
  rw [hp.mx] at hm1
  refine hm1.mono ?_
  rintro v8 h8 ⟨hx8, hv8⟩
  have l8 : (mulM p g g).length ≤ g.length + g.length := cnf_len _ _ _
  have hm2 := modMul2_any h8 _ v8 f _ p (hf0.ext (x07.trans hx8)) hv8 hdf ((mulM_can hp g g).dgp hp) hp.lt (by omega) (by omega)
  rw [hp.mx] at hm2
  refine hm2.mono ?_
  rintro v9 h9 ⟨hx9, hv9⟩
  have x09 := (x07.trans hx8).trans hx9
  have l9 : (mulM p f (mulM p g g)).length ≤ f.length + (mulM p g g).length := cnf_len _ _ _
  refine (Squarefree_yes h9 v9 _ p hv9 ((mulM_can hp f _).dgp hp) hp (pr _ x09) (by omega)).mono ?_
  rintro _ h10 ⟨hx10, rfl⟩
  have hs' : ¬ (nf p g).length < 2 := fun hc => hs (Int.ofNat_lt.2 hc)
  rw [hlt hs']
  exact ⟨x09.trans hx10, rfl⟩
end Go.Vc
