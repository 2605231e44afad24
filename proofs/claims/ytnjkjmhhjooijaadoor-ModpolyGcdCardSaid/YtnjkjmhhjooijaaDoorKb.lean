/- The exported functions at a prime. -/
import Derived.Test.YtnjkjmhhjooijaaDoorMn
import Derived.Test.YtnjkjmhhjooijaaDoorKa
namespace Go.Vc

abbrev nf (p : Nat) (f : List Nat) : List Nat := cnf p f.length (co f)
abbrev Prm (p : Nat) (h : Heap) (b : Bool) : Prop := Spec E.P f_modular_IsPrime #[vnum .u32 p] h (fun v h' => h' = h ∧ v = .bool b)

theorem modNorm_p (h : Heap) (v : Value) (f : List Nat) (p : Nat) (hf : Nums .u32 h v f) (hd : Dg f) (hp : Fld p) (hlen : f.length < 1000000) :
    Spec E.P f_modpoly_Normal #[v, vnum .u32 p] h (fun v' h' => Ext h h' ∧ Nums .u32 h' v' (nf p f)) := by
  have := modNormal_any h v f p hf hd hp.lt (by omega)
  rw [hp.mx] at this
  exact this
theorem nf_can {p : Nat} (hp : Fld p) (f : List Nat) : Can p (nf p f) := cnf_can (by have := hp.two; omega)
theorem nf_len (p : Nat) (f : List Nat) : (nf p f).length ≤ f.length := cnf_len _ _ _

theorem Squarefree_yes (h : Heap) (v : Value) (f : List Nat) (p : Nat) (hf : Nums .u32 h v f) (hd : Dg f) (hp : Fld p) (hpr : Prm p h true) (hlen : f.length < 1000000) :
    Spec E.P f_modpoly_Squarefree #[v, vnum .u32 p] h (fun v' h' => Ext h h' ∧ v' = .tuple #[.bool (sqfM p (nf p f)), .int .i64 0]) := by
  refine Spec.intro hE (args := [_, _]) F_modpoly_Squarefree rfl rfl (Nat.le_of_ble_eq_true rfl) ?_
  refine hpr.mono ?_
  rintro _ h ⟨rfl, rfl⟩
  refine (modNorm_p h v f p hf hd hp hlen).mono ?_
  rintro v1 h1 ⟨hx1, hv1⟩
  have := nf_len p f
  refine (modsquarefree_any h1 v1 _ p hv1 (nf_can hp f) hp (by omega)).mono ?_
  rintro _ h2 ⟨hx2, rfl⟩
  exact ⟨hx1.trans hx2, rfl⟩
theorem Squarefree_no (h : Heap) (v : Value) (p : Nat) (hpr : Prm p h false) :
    Spec E.P f_modpoly_Squarefree #[v, vnum .u32 p] h (fun v' h' => h' = h ∧ v' = .tuple #[.bool false, .int .i64 1]) := by
  refine Spec.intro hE (args := [_, _]) F_modpoly_Squarefree rfl rfl (Nat.le_of_ble_eq_true rfl) ?_
  refine hpr.mono ?_
  rintro _ h ⟨rfl, rfl⟩
  exact ⟨rfl, rfl⟩
theorem Gcd_yes (h : Heap) (v w : Value) (f g : List Nat) (p : Nat) (hf : Nums .u32 h v f) (hg : Nums .u32 h w g) (hd : Dg f) (hdg : Dg g) (hp : Fld p) (hpr : Prm p h true) (hlen : f.length < 1000000) (hlg : g.length < 1000000) :
    Spec E.P f_modpoly_Gcd #[v, w, vnum .u32 p] h (fun v' h' => Ext h h' ∧ ∃ u, v' = .tuple #[u, .int .i64 0] ∧ Nums .u32 h' u (gcdM p (nf p f) (nf p g))) := by
  refine Spec.intro hE (args := [_, _, _]) F_modpoly_Gcd rfl rfl (Nat.le_of_ble_eq_true rfl) ?_
  refine hpr.mono ?_
  rintro _ h ⟨rfl, rfl⟩
  refine (modNorm_p h v f p hf hd hp hlen).mono ?_
  rintro v1 h1 ⟨hx1, hv1⟩
  refine (modNorm_p h1 w g p (hg.ext hx1) hdg hp hlg).mono ?_
  rintro v2 h2 ⟨hx2, hv2⟩
  have := nf_len p f
  have := nf_len p g
  refine (modgcd_any h2 v1 v2 _ _ p (hv1.ext hx2) hv2 (nf_can hp f) (nf_can hp g) hp (by omega) (by omega)).mono ?_
  rintro u h3 ⟨hx3, hu⟩
  exact ⟨hx1.trans (hx2.trans hx3), u, rfl, hu⟩
theorem Divide_yes (h : Heap) (v w : Value) (f g : List Nat) (p : Nat) (hf : Nums .u32 h v f) (hg : Nums .u32 h w g) (hd : Dg f) (hdg : Dg g) (hp : Fld p) (hpr : Prm p h true) (hgn : nf p g ≠ []) (hlen : f.length < 1000000) (hlg : g.length < 1000000) :
    Spec E.P f_modpoly_Divide #[v, w, vnum .u32 p] h (fun v' h' => Ext h h' ∧ ∃ q r, v' = .tuple #[q, r, .int .i64 0] ∧ Nums .u32 h' q (divM p (nf p f) (nf p g)).1 ∧ Nums .u32 h' r (remM p (nf p f) (nf p g))) := by
  refine Spec.intro hE (args := [_, _, _]) F_modpoly_Divide rfl rfl (Nat.le_of_ble_eq_true rfl) ?_
  refine hpr.mono ?_
  rintro _ h ⟨rfl, rfl⟩
  refine (modNorm_p h v f p hf hd hp hlen).mono ?_
  rintro v1 h1 ⟨hx1, hv1⟩
  refine (modNorm_p h1 w g p (hg.ext hx1) hdg hp hlg).mono ?_
  rintro v2 h2 ⟨hx2, hv2⟩
  have := nf_len p f
  have := nf_len p g
  have cf := nf_can hp f
  have cg := nf_can hp g
  have hlp : (nf p g).length ≠ 0 := fun e => hgn (List.length_eq_zero_iff.1 e)
  have hv20 := hv2
  generalize nf p g = G at *
  obtain ⟨b, cap, rfl, -⟩ := hv2
  refine bsp.no (b := ((G.length : Int) == 0)) (by simp; omega) ?_
  refine (moddivide_any h2 v1 _ _ G p (hv1.ext hx2) hv20 cf cg hp hgn (by omega) (by omega)).mono ?_
  rintro _ h3 ⟨hx3, q, r, rfl, hq, hr⟩
  exact ⟨hx1.trans (hx2.trans hx3), q, r, rfl, hq, hr⟩
theorem PowMod_no (h : Heap) (v w : Value) (n p : Nat) (hpr : Prm p h false) :
    Spec E.P f_modpoly_PowMod #[v, vnum .u64 n, w, vnum .u32 p] h (fun v' h' => h' = h ∧ v' = .tuple #[.slice none 0 0, .int .i64 1]) := by
  refine Spec.intro hE (args := [_, _, _, _]) F_modpoly_PowMod rfl rfl (Nat.le_of_ble_eq_true rfl) ?_
  refine hpr.mono ?_
  rintro _ h ⟨rfl, rfl⟩
  exact ⟨rfl, rfl⟩
theorem PowMod_zero (h : Heap) (v w : Value) (f g : List Nat) (n p : Nat) (hf : Nums .u32 h v f) (hg : Nums .u32 h w g) (hd : Dg f) (hdg : Dg g) (hp : Fld p) (hpr : Prm p h true) (hgn : nf p g = []) (hlen : f.length < 1000000) (hlg : g.length < 1000000) :
    Spec E.P f_modpoly_PowMod #[v, vnum .u64 n, w, vnum .u32 p] h (fun v' h' => Ext h h' ∧ v' = .tuple #[.slice none 0 0, .int .i64 2]) := by
  refine Spec.intro hE (args := [_, _, _, _]) F_modpoly_PowMod rfl rfl (Nat.le_of_ble_eq_true rfl) ?_
  refine hpr.mono ?_
  rintro _ h ⟨rfl, rfl⟩
  refine (modNorm_p h v f p hf hd hp hlen).mono ?_
  rintro v1 h1 ⟨hx1, hv1⟩
  refine (modNorm_p h1 w g p (hg.ext hx1) hdg hp hlg).mono ?_
  rintro v2 h2 ⟨hx2, hv2⟩
  rw [hgn] at hv2
  obtain ⟨b, cap, rfl, -⟩ := hv2
  exact ⟨hx1.trans hx2, rfl⟩
theorem PowMod_yes (h : Heap) (v w : Value) (f g : List Nat) (n p : Nat) (hf : Nums .u32 h v f) (hg : Nums .u32 h w g) (hd : Dg f) (hdg : Dg g) (hp : Fld p) (hpr : Prm p h true) (hgn : nf p g ≠ []) (hn : n < 18446744073709551616) (hlen : f.length < 100000) (hlg : g.length < 100000) :
    Spec E.P f_modpoly_PowMod #[v, vnum .u64 n, w, vnum .u32 p] h (fun v' h' => Ext h h' ∧ ∃ u, v' = .tuple #[u, .int .i64 0] ∧ Nums .u32 h' u (powM p (nf p f) n (nf p g))) := by
  refine Spec.intro hE (args := [_, _, _, _]) F_modpoly_PowMod rfl rfl (Nat.le_of_ble_eq_true rfl) ?_
  refine hpr.mono ?_
  rintro _ h ⟨rfl, rfl⟩
  refine (modNorm_p h v f p hf hd hp (by omega)).mono ?_
  rintro v1 h1 ⟨hx1, hv1⟩
  refine (modNorm_p h1 w g p (hg.ext hx1) hdg hp (by omega)).mono ?_
  rintro v2 h2 ⟨hx2, hv2⟩
  have := nf_len p f
  have := nf_len p g
  have cf := nf_can hp f
  have cg := nf_can hp g
  have hlp : (nf p g).length ≠ 0 := fun e => hgn (List.length_eq_zero_iff.1 e)
  have hv20 := hv2
  generalize nf p g = G at *
  obtain ⟨b, cap, rfl, -⟩ := hv2
  refine bsp.no (b := ((G.length : Int) == 0)) (by simp; omega) ?_
  refine (modpowMod_any h2 v1 _ _ G n p (hv1.ext hx2) hv20 cf cg hp hgn hn (by omega) (by omega)).mono ?_
  rintro u h3 ⟨hx3, hu⟩
  exact ⟨hx1.trans (hx2.trans hx3), u, rfl, hu⟩
end Go.Vc
