/- The exported functions of checkpoly as functions on coefficients. -/
import Derived.Test.YtjjcncedfphnhaaNf
import Derived.Test.YtjjcncedfphnhaaExl
namespace Go.Vc
open Go.Proofs

theorem PolyAt.l4 {h : Heap} {v : Value} {p : Pol} (hp : PolyAt h v p) : L4 p := fun t ht => by
  obtain ⟨j, hj, rfl⟩ := List.getElem_of_mem ht
  obtain ⟨a, cap, -, -, hA⟩ := hp
  obtain ⟨b, off, -, hc⟩ := hA (by intro e; subst e; simp at hj)
  obtain ⟨cs, ht, -⟩ := hc j hj
  exact ht.1
/-- what Normal can take -/
def Nice (p : Pol) : Prop := p.length < 20 ∨ (Canon p ∧ p.length < 1000)
theorem Nice.len {p : Pol} (h : Nice p) : p.length < 1000 := by
  rcases h with h | h
  · omega
  · exact h.2

theorem NormalN (h : Heap) (v : Value) (p : Pol) (hp : PolyAt h v p) (hs : Nice p) (hb : norm1 p < big) :
    Spec E.P f_checkpoly_Normal #[v] h (fun v' h' => Ext h h' ∧ PolyAt h' v' (nrm p)) := by
  rcases hs with hs | ⟨hc, hl⟩
  · refine (Normal_any h v p hp hs hb).mono ?_
    rintro v' h' ⟨hx, q, hq, hcq, he, -, -⟩
    rw [nrm_eq hcq hp.l4 he] at hq
    exact ⟨hx, hq⟩
  · rw [nrm_self hc]
    exact Normal_canon h v p hp hc (by omega) (Nat.lt_trans hb big_huge)

theorem AddN (h : Heap) (v1 v2 : Value) (p q : Pol) (hp : PolyAt h v1 p) (hq : PolyAt h v2 q) (hlp : Nice p) (hlq : Nice q) (hb : norm1 p + norm1 q < big) :
    Spec E.P f_checkpoly_Add #[v1, v2] h (fun v' h' => Ext h h' ∧ PolyAt h' v' (nrm (p ++ q))) := by
  refine Spec.intro hE (args := [_, _]) F_checkpoly_Add rfl rfl (Nat.le_of_ble_eq_true rfl) ?_
  refine (NormalN h v1 p hp hlp (by omega)).mono ?_
  rintro w1 h1 ⟨hx1, hf⟩
  refine (NormalN h1 v2 q (hq.ext hx1) hlq (by omega)).mono ?_
  rintro w2 h2 ⟨hx2, hg⟩
  have n1 := nrm_norm p
  have n2 := nrm_norm q
  have l1 := hlp.len
  have l2 := hlq.len
  refine (add_any h2 w1 w2 (nrm p) (nrm q) (hf.ext hx2) hg (nrm_canon hp.l4) (nrm_canon hq.l4) (by omega) (by omega)).mono ?_
  rintro w3 h3 ⟨hx3, z, hz, hs⟩
  rw [nrm_eq hs.canon (hp.l4.append hq.l4) (fun e => by rw [hs.cf, nrm_eqv p e, nrm_eqv q e, cf_append])] at hz
  exact ⟨hx1.trans (hx2.trans hx3), hz⟩

theorem subN (h : Heap) (w1 w2 : Value) (f g : Pol) (hf : PolyAt h w1 f) (hg : PolyAt h w2 g) (hcf : Canon f) (hcg : Canon g) (hl1 : f.length < 10000) (hl2 : g.length < 10000) (hb : norm1 f + norm1 g < big) :
    Spec E.P f_checkpoly_sub #[w1, w2] h (fun v' h' => Ext h h' ∧ PolyAt h' v' (nrm (f ++ negP g))) := by
  refine Spec.intro hE (args := [_, _]) F_checkpoly_sub rfl rfl (Nat.le_of_ble_eq_true rfl) ?_
  refine (negate_any h w2 g hg (by omega) (by omega)).mono ?_
  rintro w3 h3 ⟨hx3, hg3⟩
  refine (add_any h3 w1 w3 f (negP g) (hf.ext hx3) hg3 hcf hcg.neg (by rw [norm1_neg]; omega) (by rw [len_neg]; omega)).mono ?_
  rintro w4 h4 ⟨hx4, z, hz, hs⟩
  rw [nrm_eq hs.canon (hcf.l4.append hcg.l4.neg) (fun e => by rw [hs.cf, cf_append])] at hz
  exact ⟨hx3.trans hx4, hz⟩

theorem SubN (h : Heap) (v1 v2 : Value) (p q : Pol) (hp : PolyAt h v1 p) (hq : PolyAt h v2 q) (hlp : Nice p) (hlq : Nice q) (hb : norm1 p + norm1 q < big) :
    Spec E.P f_checkpoly_Sub #[v1, v2] h (fun v' h' => Ext h h' ∧ PolyAt h' v' (nrm (p ++ negP q))) := by
  refine Spec.intro hE (args := [_, _]) F_checkpoly_Sub rfl rfl (Nat.le_of_ble_eq_true rfl) ?_
  refine (NormalN h v1 p hp hlp (by omega)).mono ?_
  rintro w1 h1 ⟨hx1, hf⟩
  refine (NormalN h1 v2 q (hq.ext hx1) hlq (by omega)).mono ?_
  rintro w2 h2 ⟨hx2, hg⟩
  have n1 := nrm_norm p
  have n2 := nrm_norm q
  have l1 := hlp.len
  have l2 := hlq.len
  refine (negate_any h2 w2 _ hg (by omega) (by omega)).mono ?_
  rintro w3 h3 ⟨hx3, hg3⟩
  refine (add_any h3 w1 w3 (nrm p) (negP (nrm q)) (hf.ext (hx2.trans hx3)) hg3 (nrm_canon hp.l4) (nrm_canon hq.l4).neg (by rw [norm1_neg]; omega) (by rw [len_neg]; omega)).mono ?_
  rintro w4 h4 ⟨hx4, z, hz, hs⟩
  rw [nrm_eq hs.canon (hp.l4.append hq.l4.neg) (fun e => by rw [hs.cf, cf_append, cf_neg, cf_neg, nrm_eqv p e, nrm_eqv q e])] at hz
  exact ⟨hx1.trans (hx2.trans (hx3.trans hx4)), hz⟩

theorem MulN (h : Heap) (v1 v2 : Value) (p q : Pol) (hp : PolyAt h v1 p) (hq : PolyAt h v2 q) (hlp : Nice p) (hlq : Nice q) (B : Nat) (hB : B ≤ 4611686018427387903) (hpB : ExpB p B) (hqB : ExpB q B) (hb1 : norm1 p < big) (hb2 : norm1 q < big) (hb : norm1 p * norm1 q < big) :
    Spec E.P f_checkpoly_Mul #[v1, v2] h (fun v' h' => Ext h h' ∧ PolyAt h' v' (nrm (pmulP p q))) := by
  refine Spec.intro hE (args := [_, _]) F_checkpoly_Mul rfl rfl (Nat.le_of_ble_eq_true rfl) ?_
  refine (NormalN h v1 p hp hlp (by omega)).mono ?_
  rintro w1 h1 ⟨hx1, hf⟩
  refine (NormalN h1 v2 q (hq.ext hx1) hlq (by omega)).mono ?_
  rintro w2 h2 ⟨hx2, hg⟩
  have n1 := nrm_norm p
  have n2 := nrm_norm q
  have l1 := hlp.len
  have l2 := hlq.len
  have hm : norm1 (nrm p) * norm1 (nrm q) ≤ norm1 p * norm1 q := Nat.mul_le_mul n1.1 n2.1
  refine (mul_any B hB _ h2 w1 w2 (nrm p) (nrm q) (Nat.le_refl _) (hf.ext hx2) hg (nrm_canon hp.l4) (nrm_canon hq.l4) (nrm_expB hp.l4 hpB) (nrm_expB hq.l4 hqB) (by omega) (by omega) (by omega) (by omega) (by omega)).mono ?_
  rintro w3 h3 ⟨hx3, z, hz, hs⟩
  rw [nrm_eq hs.canon (pmul_l4 hp.l4 hq.l4) (Eqv.trans hs.cf ((nrm_eqv p).pmul (nrm_eqv q)))] at hz
  exact ⟨hx1.trans (hx2.trans hx3), hz⟩

theorem ExactN (H B P Q : Nat) (hB : B ≤ 1000000) (hH : H ≤ 100) (h : Heap) (v1 v2 : Value) (p q : Pol) (hp : PolyAt h v1 p) (hq : PolyAt h v2 q) (hpB : ExpB p B) (hqB : ExpB q B) (hlp : p.length < 20) (hlq : q.length < 20)
    (hnp : norm1 p ≤ P) (hnq : norm1 q ≤ Q) (hQ : Q < 4294967296)
    (hdiff : ∀ fh gh, IsHi (nrm p) fh → IsHi (nrm q) gh → ∀ k, k < 4 → fh.getD k 0 ≤ gh.getD k 0 + H)
    (hn : P * (1 + Q) ^ ((H + 1) * ((H + 1) * ((H + 1) * (H + 1))) + 1) < huge) (hP : P < big) (hlen : ((H + 1) * ((H + 1) * ((H + 1) * (H + 1))) + 1) * 20 < 1000000) :
    Spec E.P f_checkpoly_Exact #[v1, v2] h (fun v' h' => Ext h h' ∧ ∃ w d ok, v' = .tuple #[w, .bool ok] ∧ PolyAt h' w d ∧ ExactP (nrm p) (nrm q) d ok H) := by
  refine (Exact_any H B P Q hB hH h v1 v2 p q hp hq hpB hqB hlp hlq hnp hnq hQ ?_ hn hP hlen).mono ?_
  · intro f g hcf hcg hef heg
    rw [nrm_eq hcf hp.l4 hef, nrm_eq hcg hq.l4 heg]
    exact hdiff
  · rintro v' h' ⟨hx, f, g, w, d, ok, hv, hcf, hcg, hef, heg, hd, hex⟩
    rw [nrm_eq hcf hp.l4 hef, nrm_eq hcg hq.l4 heg] at hex
    exact ⟨hx, w, d, ok, hv, hd, hex⟩
end Go.Vc
