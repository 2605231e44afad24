/- equal and order of the statements. -/
import Derived.Test.YtjjcncedfphnhaaCmp
namespace Go.Vc
open Go.Proofs

theorem cmpI_eq_zero {x y : Int} : cmpI x y = 0 ↔ x = y := by unfold cmpI; repeat' split; all_goals omega

theorem equal_any (h : Heap) (v1 v2 : Value) (f g : Pol) (hf : PolyAt h v1 f) (hg : PolyAt h v2 g) (hbf : norm1 f < big) (hbg : norm1 g < big) (_ : f.length < 1000000000) (hlg : g.length < 1000000000) :
    Spec E.P f_cylinderlaw54_equal #[v1, v2] h (fun v h' => Ext h h' ∧ v = .bool (decide (f = g))) := by
  obtain ⟨a, cap, rfl, hcap, hf⟩ := hf
  obtain ⟨b, cap2, rfl, hcap2, hg⟩ := hg
  refine Spec.intro hE (args := [_, _]) F_cylinderlaw54_equal rfl rfl (Nat.le_of_ble_eq_true rfl) ?_
  refine bsp.intro (fun hne => ?_) (fun heq => ?_)
  · refine ⟨Ext.rfl, ?_⟩
    have : f ≠ g := fun e => by subst e; simp at hne
    simp [this]
  have hl : f.length = g.length := by simp at heq; omega
  refine DLoop.intro hE (ι := Nat) (fun i => [(5, .int .i64 i), (0, .slice a f.length cap), (1, .slice b g.length cap2)]) (fun i h' => Ext h h' ∧ i ≤ f.length ∧ f.take i = g.take i) (fun i => f.length - i) 0 rfl ⟨rfl, rfl, rfl, trivial⟩ ⟨Ext.rfl, Nat.zero_le _, rfl⟩ ?_
  rintro i h1 ⟨hx1, hi, he⟩
  refine bsp.dec (fun hlt => ?_) (fun hlt => ?_)
  · have hif : i < f.length := by omega
    have hig : i < g.length := by omega
    obtain ⟨b1, o1, cs1, cv1, rfl, ht1, hcs1, hcv1, hl1, hiv1, hce1, h41⟩ := hf.form hif
    obtain ⟨b2, o2, cs2, cv2, rfl, ht2, hcs2, hcv2, hl2, hiv2, hce2, h42⟩ := hg.form hig
    have hno : ∀ h2, Ext h h2 → f[i] ≠ g[i] → (Ext h h2 ∧ Value.bool false = .bool (decide (f = g))) := fun h2 hx hne => ⟨hx, by
      have : f ≠ g := fun e => by subst e; exact hne rfl
      simp [this]⟩
    refine DDraw.intro hE (.take 0 (.take 1 (.take 2 (.take 3 (.take 5 (.take 6 (.take 7 (.take 8 (.take 4 (.take 9 (.take 10 (.take 11 (.take 12 (.take 13 (.take 14 (.take 15 (.take 17 (.take 18 (.take 19 (.take 20 (.take 16 (.take 21 (.one 22 (.take 23 (.take 24 .done))))))))))))))))))))))))) none (Ext h ·) (by kernel_rfl) hx1 ?_
    refine DIdx.intro i rfl rfl hif ?_
    refine DIdx.intro i rfl rfl hig ?_
    refine QLoad.agg _ (by rw [expV_len]; exact h41) (fun _ e => hce1.ext e) ?_
    refine QLoad.agg _ (by rw [expV_len]; exact h42) (fun _ e => hce2.ext e) ?_
    refine neqExp _ _ _ _ h41 h42 ?_
    refine bsp.intro (fun hne => ?_) (fun hne => ?_)
    · have hne' : f[i].2 ≠ g[i].2 := by simpa using hne
      exact hno h1 hx1 fun e => hne' (by rw [e])
    · have heq' : f[i].2 = g[i].2 := by simpa using hne
      refine DIdx.intro i rfl rfl hif ?_
      refine DIdx.intro i rfl rfl hig ?_
      refine QLoad.agg _ hl1 (fun _ e => hcv1.ext e) ?_
      refine QLoad.agg _ hl2 (fun _ e => hcv2.ext e) ?_
      refine (integer_Cmp_any h1 _ _ _ _ (hiv1.ext hx1) (hiv2.ext hx1) (by have := coefLen hbf hif; omega) (by have := coefLen hbg hig; omega)).mono ?_
      rintro _ h2 ⟨hx2, rfl⟩
      have hx02 := hx1.trans hx2
      refine ⟨hx02, ?_⟩
      refine bsp.intro (fun hc => ?_) (fun hc => ?_)
      · have hc' : cmpI f[i].1 g[i].1 ≠ 0 := by simpa using hc
        exact hno h2 hx02 fun e => hc' (by rw [e]; exact cmpI_eq_zero.2 rfl)
      · have hc' : cmpI f[i].1 g[i].1 = 0 := by simpa using hc
        refine DWrap.is ((i + 1 : Nat) : Int) (by omega) (by omega) ?_
        refine ⟨i + 1, ⟨rfl, rfl, rfl, trivial⟩, ⟨hx02, by omega, ?_⟩, by omega⟩
        rw [List.take_succ_eq_append_getElem hif, List.take_succ_eq_append_getElem hig, he, Prod.ext (cmpI_eq_zero.1 hc') heq']
  · obtain rfl : i = f.length := by omega
    refine ⟨hx1, ?_⟩
    rw [List.take_length, List.take_of_length_le (by omega)] at he
    simp [he]

theorem order_any (h : Heap) (v1 v2 : Value) (f g : Pol) (hf : PolyAt h v1 f) (hg : PolyAt h v2 g) (hbf : norm1 f < big) (hbg : norm1 g < big) (hlf : f.length < 1000000000) (_ : g.length < 1000000000) :
    Spec E.P f_cylinderlaw54_order #[v1, v2] h (fun v h' => Ext h h' ∧ v = .int .i64 (cmpP f g)) := by
  obtain ⟨a, cap, rfl, hcap, hf⟩ := hf
  obtain ⟨b, cap2, rfl, hcap2, hg⟩ := hg
  refine Spec.intro hE (args := [_, _]) F_cylinderlaw54_order rfl rfl (Nat.le_of_ble_eq_true rfl) ?_
  refine DLoop.intro hE (ι := Nat) (fun i => [(5, .int .i64 i), (0, .slice a f.length cap), (1, .slice b g.length cap2)]) (fun i h' => Ext h h' ∧ i ≤ f.length ∧ i ≤ g.length ∧ cmpP f g = cmpP (f.drop i) (g.drop i)) (fun i => f.length - i) 0 rfl ⟨rfl, rfl, rfl, trivial⟩ ⟨Ext.rfl, Nat.zero_le _, Nat.zero_le _, rfl⟩ ?_
  rintro i h1 ⟨hx1, hi, hi2, he⟩
  refine bsp.dec (fun hlt => ?_) (fun hlt => ?_)
  · refine bsp.dec (fun hlt2 => ?_) (fun hlt2 => ?_)
    · have hif : i < f.length := by omega
      have hig : i < g.length := by omega
      obtain ⟨b1, o1, cs1, cv1, rfl, ht1, hcs1, hcv1, hl1, hiv1, hce1, h41⟩ := hf.form hif
      obtain ⟨b2, o2, cs2, cv2, rfl, ht2, hcs2, hcv2, hl2, hiv2, hce2, h42⟩ := hg.form hig
      rw [cmpP_step hif hig] at he
      refine DDraw.intro hE (.take 0 (.take 1 (.take 2 (.take 3 (.take 5 (.take 6 (.take 7 (.take 8 (.take 4 (.take 9 (.one 10 .done))))))))))) none (Ext h ·) (by kernel_rfl) hx1 ?_
      refine DIdx.intro i rfl rfl hif ?_
      refine DIdx.intro i rfl rfl hig ?_
      refine QLoad.agg _ (by rw [expV_len]; exact h41) (fun _ e => hce1.ext e) ?_
      refine QLoad.agg _ (by rw [expV_len]; exact h42) (fun _ e => hce2.ext e) ?_
      refine (greater_any h1 _ _ h41 h42).mono ?_
      rintro _ h2 ⟨hx2, rfl⟩
      have hx02 := hx1.trans hx2
      refine ⟨hx02, ?_⟩
      refine bsp.dec (fun h1' => ?_) (fun h1' => ?_)
      · have e : cmpT f[i] g[i] = 1 := by unfold cmpT; rw [if_pos (by omega), h1']
        exact ⟨hx02, by rw [he, if_pos (by omega), e]⟩
      refine DDraw.intro hE (.take 0 (.take 1 (.take 2 (.take 3 (.take 5 (.take 6 (.take 7 (.take 8 (.take 4 (.take 9 (.one 10 .done))))))))))) none (Ext h ·) (by kernel_rfl) hx02 ?_
      refine DIdx.intro i rfl rfl hig ?_
      refine DIdx.intro i rfl rfl hif ?_
      refine QLoad.agg _ (by rw [expV_len]; exact h42) (fun _ e => hce2.ext e) ?_
      refine QLoad.agg _ (by rw [expV_len]; exact h41) (fun _ e => hce1.ext e) ?_
      refine (greater_any h2 _ _ h42 h41).mono ?_
      rintro _ h3 ⟨hx3, rfl⟩
      have hx03 := hx02.trans hx3
      have hsw := cmpE_swap f[i].2 g[i].2
      refine ⟨hx03, ?_⟩
      refine bsp.dec (fun h2' => ?_) (fun h2' => ?_)
      · have e : cmpT f[i] g[i] = -1 := by unfold cmpT; rw [if_pos (by omega)]; omega
        exact ⟨hx03, by rw [he, if_pos (by omega), e]⟩
      have h0 : cmpE f[i].2 g[i].2 = 0 := by
        rcases cmpE_val f[i].2 g[i].2 with h | h | h
        · omega
        · exact h
        · omega
      have e : cmpT f[i] g[i] = cmpI f[i].1 g[i].1 := if_neg (by omega)
      rw [e] at he
      refine DDraw.intro hE (.take 0 (.take 1 (.take 2 (.take 3 (.take 5 (.take 6 (.take 7 (.take 8 (.take 4 (.take 9 (.one 10 (.one 11 .done)))))))))))) none (Ext h ·) (by kernel_rfl) hx03 ?_
      refine DIdx.intro i rfl rfl hif ?_
      refine DIdx.intro i rfl rfl hig ?_
      refine QLoad.agg _ hl1 (fun _ e => hcv1.ext e) ?_
      refine QLoad.agg _ hl2 (fun _ e => hcv2.ext e) ?_
      refine (integer_Cmp_any h3 _ _ _ _ (hiv1.ext hx03) (hiv2.ext hx03) (by have := coefLen hbf hif; omega) (by have := coefLen hbg hig; omega)).mono ?_
      rintro _ h4 ⟨hx4, rfl⟩
      have hx04 := hx03.trans hx4
      refine ⟨hx04, hx04, ?_⟩
      refine bsp.intro (fun hne => ?_) (fun hne => ?_)
      · have hne' : cmpI f[i].1 g[i].1 ≠ 0 := by simpa using hne
        exact ⟨hx04, by rw [he, if_pos hne']⟩
      · have hne' : cmpI f[i].1 g[i].1 = 0 := by simpa using hne
        rw [if_neg (by omega)] at he
        refine DWrap.is ((i + 1 : Nat) : Int) (by omega) (by omega) ?_
        exact ⟨i + 1, ⟨rfl, rfl, rfl, trivial⟩, ⟨hx04, by omega, by omega, he⟩, by omega⟩
    · rw [cmpP_end hi hi2 (by omega)] at he
      refine bsp.dec (fun hc => ?_) (fun hc => ?_)
      · exact ⟨hx1, by rw [he, cmpI, if_pos hc]⟩
      refine bsp.dec (fun hc2 => ?_) (fun hc2 => ?_)
      · exact ⟨hx1, by rw [he, cmpI, if_neg hc, if_pos hc2]⟩
      · exact ⟨hx1, by rw [he, cmpI, if_neg hc, if_neg (by omega)]⟩
  · rw [cmpP_end hi hi2 (by omega)] at he
    refine bsp.dec (fun hc => ?_) (fun hc => ?_)
    · exact ⟨hx1, by rw [he, cmpI, if_pos hc]⟩
    refine bsp.dec (fun hc2 => ?_) (fun hc2 => ?_)
    · exact ⟨hx1, by rw [he, cmpI, if_neg hc, if_pos hc2]⟩
    · exact ⟨hx1, by rw [he, cmpI, if_neg hc, if_neg (by omega)]⟩
end Go.Vc
