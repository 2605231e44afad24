/- CheckpolyReducta returns true: its walk, and its law. -/
import Derived.Test.YtjjcncedfphnhaaRlw
namespace Go.Vc
open Go.Proofs

theorem redL_step {v m : Nat} {f : Pol} (h : ¬ degP f v < 1) : redL v (m + 1) f = f :: (if levelP (coefP f v (degP f v)) = 0 then [] else redL v m (delP f v (degP f v))) := by
  show (if degP f v < 1 then [] else _) = _
  rw [if_neg h]

set_option maxHeartbeats 3200000 in
theorem CheckpolyReducta_any (h : Heap) (v1 : Value) (p : Pol) (lev : Int) (hp : MonosAt h v1 p) (hlev : 0 ≤ lev ∧ lev ≤ 255) :
    Spec E.P f_cylinderlaw54_CheckpolyReducta #[v1, .int .u8 lev] h (fun v h' => Ext h h' ∧ v = .bool true) := by
  refine Spec.intro hE (args := [_, _]) F_cylinderlaw54_CheckpolyReducta rfl rfl (Nat.le_of_ble_eq_true rfl) ?_
  refine (awake_any h).mono ?_
  rintro _ h1 ⟨hx1, rfl⟩
  refine (Few_any h1 v1 p 6 4 (hp.ext hx1) (by decide)).mono ?_
  rintro _ h1 ⟨rfl, b1, rfl, hb1⟩
  cases b1
  · refine (awake_any h1).mono ?_
    rintro _ h2 ⟨hx2, rfl⟩
    exact ⟨hx1.trans hx2, rfl⟩
  have hlp := (hb1 rfl).1
  have hpB := (hb1 rfl).2
  have np := hp.norm hlp (by decide)
  obtain ⟨n128, hLp⟩ := hp.norm128
  have bnum : (1000000 : Nat) < big := by decide
  refine (Poly_any h1 v1 p (hp.ext hx1) (by omega)).mono ?_
  rintro w2 h2 ⟨hx2, hw2⟩
  refine (Normal_any h2 w2 p hw2 (by omega) np).mono ?_
  rintro w3 h3 ⟨hx3, f, hf, hcf, hef, hnf, hlf⟩
  have hfB : ExpB f 4 := hcf.expB hef hpB
  have hx03 := hx1.trans (hx2.trans hx3)
  obtain ⟨v, hv, hvl⟩ : ∃ v : Nat, v < 4 ∧ lev.tmod 4 = (v : Int) := ⟨(lev.tmod 4).toNat, by
    rw [Int.tmod_eq_emod_of_nonneg hlev.1]; omega, by
    rw [Int.tmod_eq_emod_of_nonneg hlev.1]; omega⟩
  refine ⟨by decide, ?_⟩
  rw [hvl]
  refine DWrap.is (v : Int) rfl (by omega) ?_
  refine DWrap.is ((v : Int) + 1) (by omega) (by omega) ?_
  refine (Reducta_any h3 w3 f f v hv hf (by omega) (by omega) hcf (fun _ => rfl) 4 hfB).mono ?_
  rintro w4 h4 ⟨hx4, hl⟩
  have hall := redL_all v 4 (f.length + 1) f hcf hfB
  have hll := redL_len v (f.length + 1) f
  generalize hL : redL v (f.length + 1) f = l at *
  obtain ⟨a, cap, rfl, hcap, hlA⟩ := hl
  refine DLoop.intro hE (ι := Nat × Value × Pol × Nat) (fun s => [(8, .int .i64 s.1), (5, s.2.1), (6, .int .i64 ((v : Int) + 1)), (7, .slice a l.length cap)])
    (fun s h' => Ext h4 h' ∧ s.1 ≤ l.length ∧ PolyAt h' s.2.1 s.2.2.1 ∧ Canon s.2.2.1 ∧ ExpB s.2.2.1 4 ∧ norm1 s.2.2.1 ≤ 768 ∧ s.2.2.1.length ≤ 6 ∧ s.2.2.1.length < s.2.2.2 ∧ l.drop s.1 = redL v s.2.2.2 s.2.2.1) (fun s => l.length - s.1) (0, w3, f, f.length + 1) rfl ⟨rfl, rfl, rfl, rfl, trivial⟩
    ⟨Ext.rfl, Nat.zero_le _, hf.ext hx4, hcf, hfB, by dsimp only; omega, by dsimp only; omega, Nat.lt_succ_self _, hL.symm⟩ ?_
  clear hf hL
  rintro ⟨i, fv, g, m⟩ h5 ⟨hx5, hi, hg, hcg, hgB, hgn, hgl, hgm, hdrop⟩
  dsimp only at hi hg hcg hgB hgn hgl hgm hdrop ⊢
  obtain ⟨m, rfl⟩ : ∃ k, m = k + 1 := ⟨m - 1, by omega⟩
  refine bsp.dec (p := (i : Int) < l.length) (fun hlt => ?_) (fun hlt => ?_)
  · have hil : i < l.length := by omega
    have hd0 := List.drop_eq_getElem_cons hil
    have hdeg : ¬ degP g v < 1 := by
      intro hc
      have : redL v (m + 1) g = [] := by show (if degP g v < 1 then [] else _) = []; rw [if_pos hc]
      rw [hdrop, this] at hd0; cases hd0
    have hg0 : g ≠ [] := degP_nil_ne hdeg
    rw [hdrop, redL_step hdeg] at hd0
    injection hd0 with hgi hrest
    have hdle := degP_le (v := v) hgB
    refine (Degree_any h5 fv g g v hv hg (by omega) (by omega) hcg (fun _ => rfl)).mono ?_
    rintro _ h6 ⟨hx6, rfl⟩
    rw [if_neg hg0]
    generalize hd : degP g v = d at *
    refine bsp.dec (p := (d : Int) < 1) (fun hbad => ?_) (fun _ => ?_)
    · exfalso; omega
    obtain ⟨b, off, rfl, hc⟩ := hlA (by intro e; subst e; simp at hil)
    obtain ⟨u, hcell, hu⟩ := hc i l[i] (by simp)
    have hx46 := hx5.trans hx6
    refine DIdx.intro i rfl rfl hil ?_
    refine DLoad.scalar (hx46.cell hcell) ?_
    rw [← hgi] at hu
    refine (equal_any h6 u fv g g (hu.ext hx46) (hg.ext hx6) (by omega) (by omega) (by omega) (by omega)).mono ?_
    rintro _ h7 ⟨hx7, rfl⟩
    refine bsp.no (by simp) ?_
    have hx57 := hx6.trans hx7
    have hg7 := hg.ext hx57
    refine (Coef_any h7 fv g g v (d : Int) hv (by omega) hg7 (by omega) (by omega) hcg (fun _ => rfl)).mono ?_
    rintro w8 h8 ⟨hx8, hw8⟩
    rw [Int.toNat_natCast, ← leadP_zero] at hw8
    have hl0 := leadP_norm g v d 0
    refine (Level_any h8 w8 _ (leadP g v d 0) hw8 (by omega) (by omega) (leadP_canon hcg v d 0 hv) (fun _ => rfl)).mono ?_
    rintro _ h9 ⟨hx9, rfl⟩
    rw [leadP_zero]
    have hx59 := hx57.trans (hx8.trans hx9)
    refine bsp.dec (p := (levelP (coefP g v d) : Int) = 0) (fun hz => ?_) (fun hnz => ?_)
    · refine DWrap.is ((l.length : Int) - 1) rfl (by omega) ?_
      refine ⟨hx03.trans (hx4.trans (hx5.trans hx59)), ?_⟩
      rw [if_pos (by omega)] at hrest
      have : l.length = i + 1 := by
        have := congrArg List.length hrest
        simp at this; omega
      show Value.bool _ = Value.bool true
      congr 1
      simp; omega
    · rw [if_neg (by omega)] at hrest
      refine DLoop.intro hE (ι := Nat × Value) (fun s => [(11, .int .i64 s.1), (10, s.2), (9, .int .i64 d), (8, .int .i64 i), (5, fv), (6, .int .i64 ((v : Int) + 1)), (7, .slice (some ⟨b, off, none⟩) l.length cap)])
        (fun s h' => Ext h5 h' ∧ s.1 ≤ d ∧ PolyAt h' s.2 (leadP g v d s.1)) (fun s => d - s.1) (0, w8) rfl ⟨rfl, rfl, rfl, rfl, rfl, rfl, rfl, trivial⟩ ⟨hx59, Nat.zero_le _, hw8.ext hx9⟩ ?_
      rintro ⟨k, lv⟩ h10 ⟨hx10, hk, hlv⟩
      dsimp only at hk hlv ⊢
      have hlk := leadP_norm g v d k
      refine bsp.dec (p := (k : Int) < d) (fun hkd => ?_) (fun hkd => ?_)
      · refine (Var_any h10 v hv).mono ?_
        rintro w11 h11 ⟨hx11, hw11⟩
        have hun : ExpB [(1, unitE v)] 4 := fun t ht x hx => by
          rw [List.mem_singleton] at ht; subst ht
          rcases List.mem_or_eq_of_mem_set hx with h | h
          · simp at h; omega
          · omega
        have hn1 : norm1 [((1 : Int), unitE v)] = 1 := rfl
        refine (polyMul_any h11 lv w11 (leadP g v d k) [(1, unitE v)] (hlv.ext hx11) hw11 4 (by omega) (leadP_expB hgB v d k (by omega)) hun (by omega) (by simp) (by omega) (by omega) (by rw [hn1]; omega)).mono ?_
        rintro w12 h12 ⟨hx12, fa, ga, z, hz, hcfa, hcga, hefa, hega, hs, -, -, -, -⟩
        have hun4 : Canon [((1 : Int), unitE v)] := ⟨List.pairwise_singleton _ _, by simp, by intro t ht; rw [List.mem_singleton] at ht; subst ht; simp [unitE]⟩
        obtain rfl : fa = leadP g v d k := canon_unique hcfa (leadP_canon hcg v d k hv) fun e _ => hefa e
        obtain rfl : ga = [(1, unitE v)] := canon_unique hcga hun4 fun e _ => hega e
        have hzz : z = leadP g v d (k + 1) := canon_unique hs.canon (leadP_canon hcg v d (k + 1) hv) fun e _ => by rw [hs.cf, leadP_next hcg.l4 v d k hv]
        rw [hzz] at hz
        refine DWrap.is ((k + 1 : Nat) : Int) (by omega) (by omega) ?_
        exact ⟨(k + 1, w12), ⟨rfl, rfl, rfl, rfl, rfl, rfl, rfl, trivial⟩, ⟨hx10.trans (hx11.trans hx12), by dsimp only; omega, hz⟩, by dsimp only; omega⟩
      · obtain rfl : k = d := by omega
        refine (polySub_any h10 fv lv g (leadP g v k k) (hg.ext hx10) hlv (by omega) (by omega) (by omega)).mono ?_
        rintro w11 h11 ⟨hx11, z, hz, hs⟩
        have hdc : Canon (delP g v k) := hcg.filter _
        have hzz : z = delP g v k := canon_unique hs.canon hdc fun e _ => by
          rw [hs.cf, cf_neg, leadP_end g v k hv hcg.l4, cf_partition g v k e]; omega
        rw [hzz] at hz
        have hdl := delP_len (v := v) hg0
        rw [hd] at hdl
        refine DWrap.is ((i + 1 : Nat) : Int) (by omega) (by omega) ?_
        refine ⟨(i + 1, w11, delP g v k, m), ⟨rfl, rfl, rfl, rfl, trivial⟩, ⟨hx5.trans (hx10.trans hx11), by dsimp only; omega, hz, hdc, fun t ht => hgB t (List.mem_filter.1 ht).1, ?_, by dsimp only; omega, by dsimp only; omega, hrest.symm⟩, by dsimp only; omega⟩
        have := norm1_filter' g fun t => decide (t.2.getD v 0 ≠ k)
        dsimp only
        unfold delP
        omega
  · have hend : redL v (m + 1) g = [] := by
      rw [← hdrop]; exact List.drop_of_length_le (by omega)
    have hdeg : degP g v < 1 := by
      rcases Nat.lt_or_ge (degP g v) 1 with h | h
      · exact h
      · rw [redL_step (by omega)] at hend; cases hend
    refine (Degree_any h5 fv g g v hv hg (by omega) (by omega) hcg (fun _ => rfl)).mono ?_
    rintro _ h6 ⟨hx6, rfl⟩
    refine ⟨hx03.trans (hx4.trans (hx5.trans hx6)), ?_⟩
    show Value.bool _ = Value.bool true
    congr 1
    rw [decide_eq_true_eq]
    split <;> omega
end Go.Vc
