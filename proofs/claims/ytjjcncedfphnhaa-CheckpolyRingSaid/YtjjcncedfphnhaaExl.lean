/- checkpoly.Exact, and products with a canonical polynomial of any length. -/
import Derived.Test.YtjjcncedfphnhaaExw
import Derived.Test.YtjjcncedfphnhaaSum
namespace Go.Vc
open Go.Proofs

theorem Exact_any (H B P Q : Nat) (hB : B ≤ 1000000) (hH : H ≤ 100) (h : Heap) (v1 v2 : Value) (p q : Pol) (hp : PolyAt h v1 p) (hq : PolyAt h v2 q) (hpB : ExpB p B) (hqB : ExpB q B) (hlp : p.length < 20) (hlq : q.length < 20)
    (hnp : norm1 p ≤ P) (hnq : norm1 q ≤ Q) (hQ : Q < 4294967296)
    (hdiff : ∀ f g, Canon f → Canon g → (∀ e, cf f e = cf p e) → (∀ e, cf g e = cf q e) → ∀ fh gh, IsHi f fh → IsHi g gh → ∀ k, k < 4 → fh.getD k 0 ≤ gh.getD k 0 + H)
    (hn : P * (1 + Q) ^ ((H + 1) * ((H + 1) * ((H + 1) * (H + 1))) + 1) < huge) (hP : P < big) (hlen : ((H + 1) * ((H + 1) * ((H + 1) * (H + 1))) + 1) * 20 < 1000000) :
    Spec E.P f_checkpoly_Exact #[v1, v2] h (fun v' h' => Ext h h' ∧ ∃ f g w d ok, v' = .tuple #[w, .bool ok] ∧ Canon f ∧ Canon g ∧ (∀ e, cf f e = cf p e) ∧ (∀ e, cf g e = cf q e) ∧ PolyAt h' w d ∧ ExactP f g d ok H) := by
  have hbig : (4294967296 : Nat) < big := by decide
  refine Spec.intro hE (args := [_, _]) F_checkpoly_Exact rfl rfl (Nat.le_of_ble_eq_true rfl) ?_
  refine (Normal_any h v1 p hp hlp (by omega)).mono ?_
  rintro w1 h1 ⟨hx1, f, hf, hcf, hef, hnf, hlf⟩
  refine (Normal_any h1 v2 q (hq.ext hx1) hlq (by omega)).mono ?_
  rintro w2 h2 ⟨hx2, g, hg, hcg, heg, hng, hlg⟩
  refine (exact_any H B hB h2 w1 w2 f g (hf.ext hx2) hg hcf hcg (hcf.expB hef hpB) (hcg.expB heg hqB) hH (hdiff f g hcf hcg hef heg) (fun t ht => ?_) (by omega) (by omega) (by omega) ?_ ?_).mono ?_
  · have := norm1_mem ht; omega
  · refine Nat.lt_of_le_of_lt (Nat.mul_le_mul (Nat.le_trans hnf hnp) (Nat.pow_le_pow_left (by omega) _)) hn
  · exact Nat.lt_of_le_of_lt (Nat.mul_le_mul_left _ (by omega)) hlen
  · rintro _ h3 ⟨hx3, w, d, ok, rfl, hd, hex⟩
    exact ⟨hx1.trans (hx2.trans hx3), f, g, w, d, ok, rfl, hcf, hcg, hef, heg, hd, hex⟩

theorem polyMul_canon (h : Heap) (v1 v2 : Value) (p q : Pol) (hp : PolyAt h v1 p) (hq : PolyAt h v2 q) (hcp : Canon p) (B : Nat) (hB : B ≤ 4611686018427387903) (hpB : ExpB p B) (hqB : ExpB q B) (hlp : p.length < 1000) (hlq : q.length < 20) (hb1 : norm1 p < huge) (hb2 : norm1 q < big) (hb : norm1 p * norm1 q < huge) :
    Spec E.P f_checkpoly_Mul #[v1, v2] h (fun v' h' => Ext h h' ∧ ∃ g z, PolyAt h' v' z ∧ Canon g ∧ (∀ e, cf g e = cf q e) ∧ IsProd p g z ∧ norm1 g ≤ norm1 q ∧ g.length ≤ q.length) := by
  refine Spec.intro hE (args := [_, _]) F_checkpoly_Mul rfl rfl (Nat.le_of_ble_eq_true rfl) ?_
  refine (Normal_canon h v1 p hp hcp (by omega) hb1).mono ?_
  rintro w1 h1 ⟨hx1, hf⟩
  refine (Normal_any h1 v2 q (hq.ext hx1) hlq hb2).mono ?_
  rintro w2 h2 ⟨hx2, g, hg, hcg, heg, hng, hlg⟩
  have hm : norm1 p * norm1 g ≤ norm1 p * norm1 q := Nat.mul_le_mul (Nat.le_refl _) hng
  refine (mul_huge B hB _ h2 w1 w2 p g (Nat.le_refl _) (hf.ext hx2) hg hcp hcg hpB (hcg.expB heg hqB) hb1 (Nat.lt_trans (by omega) big_huge) (.inr (by omega)) (by omega) (by omega) (by omega)).mono ?_
  rintro w3 h3 ⟨hx3, z, hz, hs⟩
  exact ⟨hx1.trans (hx2.trans hx3), g, z, hz, hcg, heg, hs, hng, hlg⟩
end Go.Vc
