/- Xgcd. -/
import Derived.Test.YtnjkjmhhjooijaaDoorKc
namespace Go.Vc
namespace Fx
variable {p : Nat} [hp : Pr p]
theorem monic_unique {a b : Fx p} (ha : Monic a) (hb : Monic b) (hn : a.n = b.n) (h : a ∣ b) : a = b := by
  have han : a.n ≠ 0 := fun e => ha.1 (n_zero.1 e)
  have h1 : a ∣ b - a := Cr.dvd_sub h (Cr.dvd_refl a)
  have h2 : (b - a).n ≤ a.n - 1 := n_le fun i hi => by
    show co (subM p b.l a.l) i = 0
    rw [co_subM]
    by_cases e : i = a.n - 1
    · have e1 : co b.l i = 1 := by rw [e, hn]; exact hb.2
      have e2 : co a.l i = 1 := by rw [e]; exact ha.2
      have := hp.fld.two
      rw [e1, e2, Nat.mod_eq_of_lt (show 1 < p by omega), show 1 + (p - 1) = p by omega, Nat.mod_self]
    · rw [co_ge (f := b.l) (by unfold n at hi hn e; omega), co_ge (f := a.l) (by unfold n at hi e; omega), Nat.zero_mod, Nat.sub_zero, Nat.zero_add, Nat.mod_self]
  exact (Cr.eq_of_sub (small_dvd h1 (by omega))).symm
theorem C_l {c : Nat} (h0 : c ≠ 0) (h : c < p) : (C (p := p) c).l = [c] := by
  have : Can p [c] := ⟨fun d hd => by rw [List.mem_singleton.1 hd]; exact h, fun _ => h0⟩
  refine (C c).can.ext this fun i => ?_
  rw [co_C]
  split
  · rename_i e; subst e; exact Nat.mod_eq_of_lt h
  · exact (co_ge (f := [c]) (show 1 ≤ i by omega)).symm
theorem inv_ne {a : Fx p} (ha : a ≠ 0) : invM (lead a) p ≠ 0 := fun e => by
  have h := (hp.fld.invM (lead_ne ha)).1
  rw [e, Nat.mul_zero, Nat.zero_mod] at h
  omega
/-- what the extended algorithm says -/
structure XgS (F G d u v : Fx p) : Prop where
  is : d = gcd F G
  eq : u * F + v * G = d
  zero : F = 0 → G = 0 → u = 0 ∧ v = 0
  left : F ≠ 0 → G = 0 → u.n = 1 ∧ v = 0
  right : G ≠ 0 → G.n = d.n → u = 0 ∧ v.n = 1
  rest : G ≠ 0 → G.n ≠ d.n → u.n ≤ G.n - d.n ∧ v.n ≤ F.n - d.n
  lu : u.n ≤ 100
  lv : v.n ≤ 100
theorem xgs_rest {F G c : Fx p} (hG : G ≠ 0) (hn : G.n ≠ (gcd F G).n) (hc : G ∣ c * F - gcd F G) (lF : F.n ≤ 50) (lG : G.n ≤ 50) :
    quo G (gcd F G) ≠ 0 ∧ XgS F G (gcd F G) (rem c (quo G (gcd F G))) (quo (gcd F G - rem c (quo G (gcd F G)) * F) G) := by
  obtain ⟨dF, dG, -⟩ := gcd_spec F G
  have hd : gcd F G ≠ 0 := gcd_ne fun h => hG h.2
  have hdn := n_dvd hG dG
  have e1 := (quo_rem G hd).1
  rw [(rem_zero hd).2 dG, Cr.add_zero] at e1
  have hF : F ≠ 0 := fun e => by
    rw [e, gcd_step _ hG, rem_self (show (0 : Fx p).n < G.n by rw [n_zero.2 rfl]; exact Nat.pos_of_ne_zero fun h => hG (n_zero.1 h)), gcd_zero, n_monic] at hn
    exact hn rfl
  generalize hdd : gcd F G = d at *
  have hP : quo G d ≠ 0 := fun e => hG (by rw [e1, e, Cr.zero_mul])
  have hPn : G.n = (quo G d).n + d.n - 1 := by
    have := n_mul hP hd
    rw [← e1] at this; exact this
  generalize quo G d = P at *
  have hu := (quo_rem c hP).2
  obtain ⟨t, ht⟩ := rem_dvd c hP
  generalize rem c P = u at *
  obtain ⟨k, hk⟩ := dF
  have key : G ∣ d - u * F := by
    have h2 : G ∣ -(c * F - d) + (c - u) * F := by
      refine Cr.dvd_add (Cr.dvd_neg hc) ⟨t * k, ?_⟩
      rw [ht, hk, e1]
      exact Cr.id4 P t d k (fun P t d k => P * t * (d * k)) (fun P t d k => P * d * (t * k)) rfl
    have e2 : -(c * F - d) + (c - u) * F = d - u * F := Cr.id4 c F d u (fun c F d u => -(c * F - d) + (c - u) * F) (fun c F d u => d - u * F) rfl
    rwa [e2] at h2
  have e3 := (quo_rem (d - u * F) hG).1
  rw [(rem_zero hG).2 key, Cr.add_zero] at e3
  have hdn0 : d.n ≠ 0 := fun h => hd (n_zero.1 h)
  have hu0 : u ≠ 0 := fun e => by
    rw [e, Cr.zero_mul] at key
    have e4 : d - 0 = d := Cr.id1 d (fun d => d - 0) (fun d => d) rfl
    rw [e4] at key
    exact hd (small_dvd key (by omega))
  have hFn : F.n ≠ 0 := fun h => hF (n_zero.1 h)
  have hun : u.n ≠ 0 := fun h => hu0 (n_zero.1 h)
  have l1 := n_quo (a := d - u * F) hG
  have l2 := n_sub d (u * F)
  rw [n_mul hu0 hF] at l2
  have hkn : d.n ≤ F.n := n_dvd hF ⟨k, hk⟩
  refine ⟨hP, hdd.symm, ?_, fun h => absurd h hF, fun _ h => absurd h hG, fun _ h => absurd h hn, fun _ _ => ⟨by omega, by omega⟩, by omega, by omega⟩
  rw [← e3]
  exact Cr.id3 u F d (fun u F d => u * F + (d - u * F)) (fun _ _ d => d) rfl
theorem xgs_zero : XgS (p := p) 0 0 0 0 0 := by
  refine ⟨by rw [gcd_zero, monic_zero], ?_, fun _ _ => ⟨rfl, rfl⟩, fun h => absurd rfl h, fun h => absurd rfl h, fun h => absurd rfl h, by rw [n_zero.2 rfl]; omega, by rw [n_zero.2 rfl]; omega⟩
  rw [Cr.zero_mul, Cr.add_zero]
theorem C_n {c : Nat} (h0 : c ≠ 0) (h : c < p) : (C (p := p) c).n = 1 := by unfold n; rw [C_l h0 h]; rfl
theorem xgs_left {F : Fx p} (hF : F ≠ 0) : XgS F 0 (gcd F 0) (C (invM (lead F) p)) 0 := by
  have hc := C_n (inv_ne hF) (hp.fld.invM (lead_ne hF)).2
  refine ⟨rfl, ?_, fun h => absurd h hF, fun _ _ => ⟨hc, rfl⟩, fun h => absurd rfl h, fun h => absurd rfl h, by rw [hc]; omega, by rw [n_zero.2 rfl]; omega⟩
  rw [gcd_zero, monic_eq hF, Cr.zero_mul, Cr.add_zero]
theorem xgs_right {F G : Fx p} (hG : G ≠ 0) (hn : G.n = (gcd F G).n) : XgS F G (gcd F G) 0 (C (invM (lead G) p)) := by
  have hc := C_n (inv_ne hG) (hp.fld.invM (lead_ne hG)).2
  obtain ⟨-, dG, -⟩ := gcd_spec F G
  have hd : gcd F G ≠ 0 := gcd_ne fun h => hG h.2
  have hm : Monic (gcd F G) := (gcd_monic (a := F) (b := G)).resolve_left hd
  have e := monic_unique hm (lead_monic hG) (by rw [n_monic]; exact hn.symm) (Cr.dvd_trans dG (dvd_monic G))
  refine ⟨rfl, ?_, fun _ h => absurd h hG, fun _ h => absurd h hG, fun _ _ => ⟨rfl, hc⟩, fun _ h => absurd hn h, by rw [n_zero.2 rfl]; omega, by rw [hc]; omega⟩
  rw [Cr.zero_mul, Cr.zero_add, ← monic_eq hG, ← e]

theorem normX (h : Heap) (v : Value) (a : Fx p) (ha : At h v a) (la : a.n < 1000000) : Spec E.P f_modpoly_Normal #[v, vnum .u32 p] h (fun v' h' => Ext h h' ∧ At h' v' a) := by
  have := modNorm_p h v a.l p ha (a.can.dgp hp.fld) hp.fld la
  rw [nf_self hp.fld a.can] at this
  exact this

set_option maxHeartbeats 1600000 in
theorem Xgcd_any (h : Heap) (v w : Value) (F G : Fx p) (hF : At h v F) (hG : At h w G) (hpr : Prm p h true) (lF : F.n ≤ 50) (lG : G.n ≤ 50) :
    Spec E.P f_modpoly_Xgcd #[v, w, vnum .u32 p] h (fun v' h' => Ext h h' ∧ ∃ dv uv vv, ∃ d a b : Fx p, v' = .tuple #[dv, uv, vv, .int .i64 0] ∧ At h' dv d ∧ At h' uv a ∧ At h' vv b ∧ XgS F G d a b) := by
  refine Spec.intro hE (args := [_, _, _]) F_modpoly_Xgcd rfl rfl (Nat.le_of_ble_eq_true rfl) ?_
  refine hpr.mono ?_
  rintro _ h ⟨rfl, rfl⟩
  refine (normX h v F hF (by omega)).mono ?_
  rintro fv h1 ⟨hx1, hf⟩
  refine (normX h1 w G (hG.ext hx1) (by omega)).mono ?_
  rintro gv h2 ⟨hx2, hg⟩
  have hf := hf.ext hx2
  refine (gcdX h2 fv gv F G hf hg (by omega) (by omega)).mono ?_
  rintro dv h3 ⟨hx3, hd⟩
  have hf := hf.ext hx3
  have hg := hg.ext hx3
  have x03 := hx1.trans (hx2.trans hx3)
  have hf0 := hf
  have hg0 := hg
  have hd0 := hd
  have fn : F.n = F.l.length := rfl
  have gn : G.n = G.l.length := rfl
  have dn : (gcd F G).n = (gcd F G).l.length := rfl
  obtain ⟨fa, fcap, rfl, -⟩ := hf
  obtain ⟨ga, gcap, rfl, -⟩ := hg
  obtain ⟨da, dcap, rfl, -⟩ := hd
  by_cases hGz : G = 0
  · subst hGz
    by_cases hFz : F = 0
    · subst hFz
      exact ⟨x03, _, _, _, 0, 0, 0, rfl, Nums.nil _ _, Nums.nil _ _, Nums.nil _ _, xgs_zero⟩
    have hfl : F.l.length ≠ 0 := fun e => hFz (n_zero.1 e)
    refine bsp.no (b := ((F.l.length : Int) == 0)) (by rw [beq_eq_false_iff_ne]; omega) ?_
    obtain ⟨b, off, rfl, hcell⟩ := hf0.at (i := F.l.length - 1) (by omega)
    refine DWrap.is ((F.l.length - 1 : Nat) : Int) (by omega) (by omega) ?_
    refine DIdx.intro (F.l.length - 1) rfl rfl (by omega) ?_
    refine DLoad.scalar hcell ?_
    refine (inverseX h3 F hFz).mono ?_
    rintro _ h3 ⟨rfl, rfl⟩
    refine ⟨⟨rfl, by decide, rfl, rfl, trivial⟩, ?_⟩
    refine DNew.intro ?_
    intro ob h4 hob hx4 hs4 hg4
    have hone : Nums .u32 h4 (.slice (some ⟨ob, 0, none⟩) 1 1) [invM (lead F) p] := Whole.nums (e := t_uint32) hg4 rfl
    rw [← C_l (inv_ne hFz) (hp.fld.invM (lead_ne hFz)).2] at hone
    exact ⟨x03.trans hx4, _, _, _, gcd F 0, C (invM (lead F) p), 0, rfl, hd0.ext hx4, hone, Nums.nil _ _, xgs_left hFz⟩
  have hgl : G.l.length ≠ 0 := fun e => hGz (n_zero.1 e)
  refine bsp.no (b := ((G.l.length : Int) == 0)) (by rw [beq_eq_false_iff_ne]; omega) ?_
  refine bsp.no (b := ((G.l.length : Int) == 0)) (by rw [beq_eq_false_iff_ne]; omega) ?_
  refine bsp.intro (b := ((G.l.length : Int) == ((gcd F G).l.length : Int))) (fun heq => ?_) (fun hne => ?_)
  · have heq : G.n = (gcd F G).n := by simp at heq; omega
    obtain ⟨b, off, rfl, hcell⟩ := hg0.at (i := G.l.length - 1) (by omega)
    refine DWrap.is ((G.l.length - 1 : Nat) : Int) (by omega) (by omega) ?_
    refine DIdx.intro (G.l.length - 1) rfl rfl (by omega) ?_
    refine DLoad.scalar hcell ?_
    refine (inverseX h3 G hGz).mono ?_
    rintro _ h3 ⟨rfl, rfl⟩
    refine ⟨⟨rfl, by decide, rfl, rfl, trivial⟩, ?_⟩
    refine DNew.intro ?_
    intro ob h4 hob hx4 hs4 hg4
    have hone : Nums .u32 h4 (.slice (some ⟨ob, 0, none⟩) 1 1) [invM (lead G) p] := Whole.nums (e := t_uint32) hg4 rfl
    rw [← C_l (inv_ne hGz) (hp.fld.invM (lead_ne hGz)).2] at hone
    exact ⟨x03.trans hx4, _, _, _, gcd F G, 0, C (invM (lead G) p), rfl, hd0.ext hx4, Nums.nil _ _, hone, xgs_right hGz heq⟩
  · have hne : G.n ≠ (gcd F G).n := by simp at hne; omega
    have hdz : gcd F G ≠ 0 := gcd_ne fun h => hGz h.2
    have hdG := n_dvd hGz (gcd_spec F G).2.1
    refine (divX h3 _ _ G (gcd F G) hg0 hd0 hdz (by omega) (by omega)).mono ?_
    rintro _ h4 ⟨hx4, pv, rv, rfl, hpv, -⟩
    refine (cofactor_any h4 _ _ F G (hf0.ext hx4) (hg0.ext hx4) (fun h => hGz h.2) lF lG).mono ?_
    rintro cv h5 ⟨hx5, c, hc, hcd, lc⟩
    obtain ⟨hP, X⟩ := xgs_rest hGz hne hcd lF lG
    have lP := n_quo (a := G) hdz
    refine (remX h5 cv pv c _ hc (hpv.ext hx5) hP (by omega) (by omega)).mono ?_
    rintro uv h6 ⟨hx6, hu⟩
    have lu := X.lu
    refine (mulX h6 uv _ _ F hu (hf0.ext (hx4.trans (hx5.trans hx6))) (by omega) (by omega)).mono ?_
    rintro mv h7 ⟨hx7, hm⟩
    have lm := n_mul_le (rem c (quo G (gcd F G))) F
    have x37 := hx4.trans (hx5.trans (hx6.trans hx7))
    refine (subX h7 _ mv _ _ (hd0.ext x37) hm (by omega) (by omega)).mono ?_
    rintro sv h8 ⟨hx8, hs⟩
    have ls := n_sub (gcd F G) (rem c (quo G (gcd F G)) * F)
    refine (divX h8 sv _ _ G hs (hg0.ext (x37.trans hx8)) hGz (by omega) (by omega)).mono ?_
    rintro _ h9 ⟨hx9, vv, wv, rfl, hv, -⟩
    exact ⟨x03.trans (x37.trans (hx8.trans hx9)), _, _, _, _, _, _, rfl, hd0.ext (x37.trans (hx8.trans hx9)), hu.ext (hx7.trans (hx8.trans hx9)), hv, X⟩
end Fx
end Go.Vc
