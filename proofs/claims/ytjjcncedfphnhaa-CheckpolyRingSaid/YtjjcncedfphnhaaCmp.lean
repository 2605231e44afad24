/- The comparisons of polynomials. -/
import Derived.Test.YtjjcncedfphnhaaNorm
namespace Go.Vc
open Go.Proofs

def cmpT (s t : Term1) : Int := if cmpE s.2 t.2 ≠ 0 then cmpE s.2 t.2 else cmpI s.1 t.1
def cmpP : Pol → Pol → Int
  | [], [] => 0
  | [], _ :: _ => -1
  | _ :: _, [] => 1
  | s :: p, t :: q => if cmpT s t ≠ 0 then cmpT s t else cmpP p q

theorem cmpP_len : ∀ (f g : Pol), (f = [] ∨ g = []) → cmpP f g = cmpI f.length g.length
  | [], [], _ => by simp [cmpP, cmpI]
  | [], _ :: _, _ => by simp only [cmpP, cmpI, List.length_nil, List.length_cons]; rw [if_pos (by omega)]
  | _ :: _, [], _ => by simp only [cmpP, cmpI, List.length_nil, List.length_cons]; rw [if_neg (by omega), if_pos (by omega)]
  | _ :: _, _ :: _, h => by simp at h

theorem cmpP_step {f g : Pol} {i : Nat} (hf : i < f.length) (hg : i < g.length) : cmpP (f.drop i) (g.drop i) = if cmpT f[i] g[i] ≠ 0 then cmpT f[i] g[i] else cmpP (f.drop (i + 1)) (g.drop (i + 1)) := by
  rw [List.drop_eq_getElem_cons hf, List.drop_eq_getElem_cons hg]; rfl

theorem cmpP_end {f g : Pol} {i : Nat} (hf : i ≤ f.length) (hg : i ≤ g.length) (h : i = f.length ∨ i = g.length) : cmpP (f.drop i) (g.drop i) = cmpI f.length g.length := by
  rw [cmpP_len _ _ (by rcases h with h | h <;> subst h <;> simp), List.length_drop, List.length_drop]
  unfold cmpI; repeat' split
  all_goals omega

theorem PolyA.form {h : Heap} {a : Option Addr} {p : Pol} (hp : PolyA h a p) {i : Nat} (hi : i < p.length) : ∃ b off cs cv, a = some ⟨b, off, none⟩ ∧ TermAt h cs p[i] ∧ CellsAt h b (off + i * 6) cs ∧ CellsAt h b (off + i * 6) cv ∧ cv.length = 2 ∧ IntAt h (.agg cv.toArray) p[i].1 ∧ CellsAt h b (off + i * 6 + 2) (expV p[i].2) ∧ p[i].2.length = 4 := by
  obtain ⟨b, off, ha, hc⟩ := hp (by intro e; subst e; simp at hi)
  obtain ⟨cs, ht, hcs⟩ := hc i hi
  obtain ⟨cv, hcv, hl, hiv⟩ := ht.coef hcs
  exact ⟨b, off, cs, cv, ha, ht, hcs, hcv, hl, hiv, ht.exps hcs, ht.1⟩

theorem coefLen {p : Pol} (hb : norm1 p < big) {i : Nat} (hi : i < p.length) : (digs p[i].1.natAbs).length ≤ 32 := digs_bound (Nat.lt_of_le_of_lt (norm1_mem (List.getElem_mem hi)) hb)

theorem compare_any (h : Heap) (v1 v2 : Value) (f g : Pol) (hf : PolyAt h v1 f) (hg : PolyAt h v2 g) (hbf : norm1 f < big) (hbg : norm1 g < big) (hlf : f.length < 1000000000) (_ : g.length < 1000000000) :
    Spec E.P f_checkpoly_compare #[v1, v2] h (fun v h' => Ext h h' ∧ v = .int .i64 (cmpP f g)) := by
  obtain ⟨a, cap, rfl, hcap, hf⟩ := hf
  obtain ⟨b, cap2, rfl, hcap2, hg⟩ := hg
  refine Spec.intro hE (args := [_, _]) F_checkpoly_compare rfl rfl (Nat.le_of_ble_eq_true rfl) ?_
  have hm : ∃ m : Nat, (if (g.length : Int) < (f.length : Int) then (g.length : Int) else (f.length : Int)) = (m : Int) ∧ m ≤ f.length ∧ m ≤ g.length ∧ (m = f.length ∨ m = g.length) := by
    split
    · exact ⟨_, rfl, by omega, by omega, .inr rfl⟩
    · exact ⟨_, rfl, by omega, by omega, .inl rfl⟩
  obtain ⟨m, hm, hm1, hm2, hm3⟩ := hm
  refine DLoop.intro hE (ι := Nat) (fun i => [(13, .int .i64 i), (12, .int .i64 m), (0, .slice a f.length cap), (1, .slice b g.length cap2)]) (fun i h' => Ext h h' ∧ i ≤ m ∧ cmpP f g = cmpP (f.drop i) (g.drop i)) (fun i => m - i) 0 rfl ⟨rfl, by rw [← hm]; rfl, rfl, rfl, trivial⟩ ⟨Ext.rfl, Nat.zero_le _, rfl⟩ ?_
  rintro i h1 ⟨hx1, hi, he⟩
  refine bsp.dec (fun hlt => ?_) (fun hlt => ?_)
  · have hif : i < f.length := by omega
    have hig : i < g.length := by omega
    obtain ⟨b1, o1, cs1, cv1, rfl, ht1, hcs1, hcv1, hl1, hiv1, hce1, h41⟩ := hf.form hif
    obtain ⟨b2, o2, cs2, cv2, rfl, ht2, hcs2, hcv2, hl2, hiv2, hce2, h42⟩ := hg.form hig
    rw [cmpP_step hif hig] at he
    refine DDraw.intro hE (.take 0 (.take 1 (.take 2 (.take 3 (.take 5 (.take 6 (.take 7 (.take 8 (.take 4 (.take 9 (.one 10 (.one 11 .done)))))))))))) none (Ext h ·) (by kernel_rfl) hx1 ?_
    refine DIdx.intro i rfl rfl hif ?_
    refine DIdx.intro i rfl rfl hig ?_
    refine QLoad.agg _ (by rw [expV_len]; exact h41) (fun _ e => hce1.ext e) ?_
    refine QLoad.agg _ (by rw [expV_len]; exact h42) (fun _ e => hce2.ext e) ?_
    refine (compareExp_any h1 _ _ h41 h42).mono ?_
    rintro _ h2 ⟨hx2, rfl⟩
    have hx02 := hx1.trans hx2
    refine ⟨hx02, hx02, ?_⟩
    refine bsp.intro (fun hne => ?_) (fun hne => ?_)
    · have hne' : cmpE f[i].2 g[i].2 ≠ 0 := by simpa using hne
      have e : cmpT f[i] g[i] = cmpE f[i].2 g[i].2 := if_pos hne'
      exact ⟨hx02, by rw [he, if_pos (by rw [e]; exact hne'), e]⟩
    · have h0 : cmpE f[i].2 g[i].2 = 0 := by simpa using hne
      have e : cmpT f[i] g[i] = cmpI f[i].1 g[i].1 := if_neg (by omega)
      rw [e] at he
      refine DDraw.intro hE (.take 0 (.take 1 (.take 2 (.take 3 (.take 5 (.take 6 (.take 7 (.take 8 (.take 4 (.take 9 (.one 10 (.one 11 .done)))))))))))) none (Ext h ·) (by kernel_rfl) hx02 ?_
      refine DIdx.intro i rfl rfl hif ?_
      refine DIdx.intro i rfl rfl hig ?_
      refine QLoad.agg _ hl1 (fun _ e => hcv1.ext e) ?_
      refine QLoad.agg _ hl2 (fun _ e => hcv2.ext e) ?_
      refine (integer_Cmp_any h2 _ _ _ _ (hiv1.ext hx02) (hiv2.ext hx02) (by have := coefLen hbf hif; omega) (by have := coefLen hbg hig; omega)).mono ?_
      rintro _ h3 ⟨hx3, rfl⟩
      have hx03 := hx02.trans hx3
      refine ⟨hx03, hx03, ?_⟩
      refine bsp.intro (fun hne => ?_) (fun hne => ?_)
      · have hne' : cmpI f[i].1 g[i].1 ≠ 0 := by simpa using hne
        exact ⟨hx03, by rw [he, if_pos hne']⟩
      · have hne' : cmpI f[i].1 g[i].1 = 0 := by simpa using hne
        rw [if_neg (by omega)] at he
        refine DWrap.is ((i + 1 : Nat) : Int) (by omega) (by omega) ?_
        exact ⟨i + 1, ⟨rfl, rfl, rfl, rfl, trivial⟩, ⟨hx03, by omega, he⟩, by omega⟩
  · obtain rfl : i = m := by omega
    rw [cmpP_end hm1 hm2 hm3] at he
    refine (cmpCompare_any h1 _ _).mono ?_
    rintro _ h2 ⟨rfl, rfl⟩
    exact ⟨hx1, by rw [he]⟩

theorem Compare_any (h : Heap) (v1 v2 : Value) (p q f g : Pol) (hp : PolyAt h v1 p) (hq : PolyAt h v2 q) (hbp : norm1 p < big) (hbq : norm1 q < big) (hlp : p.length < 20) (hlq : q.length < 20)
    (hf : Canon f) (hg : Canon g) (hfp : ∀ e, cf f e = cf p e) (hgq : ∀ e, cf g e = cf q e) :
    Spec E.P f_checkpoly_Compare #[v1, v2] h (fun v h' => Ext h h' ∧ v = .int .i64 (cmpP f g)) := by
  refine Spec.intro hE (args := [_, _]) F_checkpoly_Compare rfl rfl (Nat.le_of_ble_eq_true rfl) ?_
  refine (Normal_any h v1 p hp hlp hbp).mono ?_
  rintro v1' h1 ⟨hx1, f', hf', hcf, he1, hn1, hl1⟩
  obtain rfl : f' = f := canon_unique hcf hf fun e _ => by rw [he1, hfp]
  refine (Normal_any h1 v2 q (hq.ext hx1) hlq hbq).mono ?_
  rintro v2' h2 ⟨hx2, g', hg', hcg, he2, hn2, hl2⟩
  obtain rfl : g' = g := canon_unique hcg hg fun e _ => by rw [he2, hgq]
  refine (compare_any h2 _ _ _ _ (hf'.ext hx2) hg' (by omega) (by omega) (by omega) (by omega)).mono ?_
  rintro _ h3 ⟨hx3, rfl⟩
  exact ⟨hx1.trans (hx2.trans hx3), rfl⟩
end Go.Vc
