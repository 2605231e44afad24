/- Canonical, is, wide, At. -/
import Derived.Test.YtjjcncedfphnhaaVal
namespace Go.Vc
open Go.Proofs

theorem is_any (h : Heap) (v : Value) (f : Pol) (x : List Int) (n : Int) (hf : PolyAt h v f) (h4 : x.length = 4) (M B : Nat) (hM : 1 ≤ M) (hM2 : M < 1000000000) (hx : ∀ a ∈ x, a.natAbs ≤ M) (hfB : ExpB f B) (hB : B < 1000000) (hb : norm1 f * M ^ (B * 4) < big) (hlen : f.length < 10000000) (hL : L4 f) (hn : -9223372036854775808 ≤ n ∧ n ≤ 9223372036854775807) :
    Spec E.P f_cylinderlaw54_is #[v, .agg (intV x).toArray, .int .i64 n] h (fun v' h' => Ext h h' ∧ v' = .bool (decide (den x f = n))) := by
  refine Spec.intro hE (args := [_, _, _]) F_cylinderlaw54_is rfl rfl (Nat.le_of_ble_eq_true rfl) ?_
  refine DNew.intro ?_
  intro xb h1 hxb hx1 hs1 hg1
  have hw1 : Whole h1 xb t_ar4_int (intV x) := hg1
  refine DLoad.agg (intV x) (by simp [intV, h4]) hw1.cellsAt ?_
  refine (value_any h1 v f x (hf.ext hx1) h4 M B hM hM2 hx hfB hB hb hlen).mono ?_
  rintro v2 h2 ⟨hx2, hi2⟩
  refine (integer_Of_any h2 n hn).mono ?_
  rintro v3 h3 ⟨hx3, hi3⟩
  have hd := den_le M hM B x hx f hL hfB
  have hd1 : (digs (den x f).natAbs).length ≤ 32 := digs_bound (by omega)
  have hd2 : (digs n.natAbs).length ≤ 32 := digs_bound (by have : (9223372036854775809 : Nat) < big := by decide
                                                           omega)
  refine (integer_Cmp_any h3 _ _ _ _ (hi2.ext hx3) hi3 (by omega) (by omega)).mono ?_
  rintro _ h4 ⟨hx4, rfl⟩
  refine ⟨hx1.trans (hx2.trans (hx3.trans hx4)), ?_⟩
  show Value.bool _ = Value.bool _
  congr 1
  rw [Bool.eq_iff_iff]
  simp only [beq_iff_eq, decide_eq_true_eq]
  exact cmpI_eq_zero

theorem Canonical_any (h : Heap) (v : Value) (f : Pol) (hf : PolyAt h v f) (hc : Canon f) (hb : norm1 f < big) (hlen : f.length < 10000000) :
    Spec E.P f_cylinderlaw54_Canonical #[v] h (fun v' h' => Ext h h' ∧ v' = .bool true) := by
  obtain ⟨a, cap, rfl, hcap, hfA⟩ := hf
  refine Spec.intro hE (args := [_]) F_cylinderlaw54_Canonical rfl rfl (Nat.le_of_ble_eq_true rfl) ?_
  refine DLoop.intro hE (ι := Nat) (fun i => [(3, .int .i64 i), (0, .slice a f.length cap)]) (fun i h' => Ext h h' ∧ i ≤ f.length) (fun i => f.length - i) 0 rfl ⟨rfl, rfl, trivial⟩ ⟨Ext.rfl, Nat.zero_le _⟩ ?_
  rintro i h1 ⟨hx1, hi⟩
  refine bsp.dec (fun hlt => ?_) (fun hlt => ?_)
  · have hif : i < f.length := by omega
    obtain ⟨b, off, cs, cv, rfl, ht, hcs, hcv, hlv, hiv, hce, he4⟩ := hfA.form hif
    have hd := coefLen hb hif
    refine DIdx.intro i rfl rfl hif ?_
    refine DLoad.agg cv hlv (hcv.ext hx1) ?_
    refine (integer_Normal_any h1 _ _ (hiv.ext hx1) (by omega)).mono ?_
    rintro v2 h2 ⟨hx2, hi2⟩
    refine DNew.intro ?_
    intro tb h3 htb hx3 hs3 hg3
    refine DStore.intBox (c := [_, _]) hg3 rfl (hi2.ext hx3) ?_
    intro o4 h4 hu4 hv4 hbx4
    have hx14 : Ext h1 h4 := ((Old.rfl (B := h1.size).ext (hx2.trans hx3) (Nat.le_refl _)).upd hu4 (by have := hx2.size; omega)).toExt
    have hx4 := hx1.trans hx14
    obtain ⟨c1, c2, hw4, hi4⟩ := hbx4
    have hi40 := hi4
    obtain ⟨a4, cap4, he, -⟩ := hi4
    injection he with he
    injection he with he
    injection he with e1 e2
    injection e2 with e2 _
    subst e1 e2
    obtain ⟨a5, cap5, e0, f0, f1, f2, hee, hcse, -⟩ := ht.form
    have hcoef0 : cell h4 b (off + i * 6) = some (.bool (decide (f[i].1 < 0))) := by
      have := (hcs.ext hx4).get 0 _ (by rw [hcse]; rfl); exact this
    have hcoef1 : cell h4 b (off + i * 6 + 1) = some (.slice a5 (digs f[i].1.natAbs).length cap5) := by
      have := (hcs.ext hx4).get 1 _ (by rw [hcse]; rfl); exact this
    refine DDraw.intro hE (.take 0 (.one 1 (.take 2 (.take 3 (.take 4 (.take 6 (.take 7 (.take 8 (.take 9 (.take 10 (.take 5 (.take 11 (.take 12 (.take 13 (.take 14 (.take 15 (.take 18 (.take 19 (.take 20 (.take 21 (.take 22 (.take 16 (.take 17 (.take 23 (.take 24 (.take 25 (.take 26 (.take 27 (.take 28 (.take 29 (.take 30 (.take 31 (.take 32 (.take 33 (.take 34 (.take 35 (.take 37 (.take 38 (.take 39 (.take 40 (.take 36 (.take 41 (.one 42 (.take 43 (.take 44 (.take 45 .done)))))))))))))))))))))))))))))))))))))))))))))) none (Ext h4 ·) (by kernel_rfl) Ext.rfl ?_
    refine QLoad.agg _ rfl (fun _ e => (hw4.ext e).cellsAt) ?_
    refine (Sign_any h4 _ _ hi40 (by omega)).mono ?_
    rintro _ h5 ⟨hx5, rfl⟩
    refine ⟨hx5, ?_⟩
    refine bsp.no (by have := hc.nz _ (List.getElem_mem hif); rw [beq_eq_false_iff_ne]; exact fun e => this (cmpI_zero.1 e)) ?_
    refine DIdx.intro i rfl rfl hif ?_
    refine QLoad.scalar (fun _ e => (hw4.ext e).get 0 rfl) ?_
    refine QLoad.scalar (fun _ e => e.cell hcoef0) ?_
    refine bsp.no (by simp) ?_
    refine DIdx.intro i rfl rfl hif ?_
    refine QLoad.scalar (fun _ e => (hw4.ext e).get 1 rfl) ?_
    refine QLoad.scalar (fun _ e => e.cell hcoef1) ?_
    refine bsp.no (by simp) ?_
    refine bsp.dec (p := (i : Int) > 0) (fun hi0 => ?_) (fun hi0 => ?_)
    · obtain ⟨m, rfl⟩ : ∃ m, i = m + 1 := ⟨i - 1, by omega⟩
      have hmf : m < f.length := by omega
      obtain ⟨b', off', cs', cv', ha', ht', hcs', hcv', hlv', hiv', hce', he4'⟩ := hfA.form hmf
      injection ha' with ha'
      injection ha' with ha1 ha2 _
      subst ha1 ha2
      refine DWrap.is (m : Int) (by omega) (by omega) ?_
      refine DIdx.intro m rfl rfl hmf ?_
      refine DIdx.intro (m + 1) rfl rfl hif ?_
      refine QLoad.agg (expV f[m].2) (by rw [expV_len]; exact he4') (fun _ e => hce'.ext (hx4.trans e)) ?_
      refine QLoad.agg (expV f[m + 1].2) (by rw [expV_len]; exact he4) (fun _ e => hce.ext (hx4.trans e)) ?_
      refine (greater_any h5 _ _ he4' he4).mono ?_
      rintro _ h6 ⟨hx6, rfl⟩
      refine ⟨hx5.trans hx6, ?_⟩
      have hgt : cmpE f[m].2 f[m + 1].2 = 1 := (List.pairwise_iff_getElem.1 hc.desc) m (m + 1) hmf hif (by omega)
      refine bsp.no (by simp [hgt]) ?_
      refine DLoop.intro hE (ι := Nat) (fun k => [(5, .int .i64 k), (3, .int .i64 (m + 1 : Nat)), (0, .slice (some ⟨b, off, none⟩) f.length cap)]) (fun k h'' => Ext h h'' ∧ k ≤ 4) (fun k => 4 - k) 0 rfl ⟨rfl, rfl, rfl, trivial⟩ ⟨hx4.trans (hx5.trans hx6), Nat.zero_le _⟩ ?_
      rintro k h8 ⟨hx8, hk⟩
      refine bsp.dec (fun hk4 => ?_) (fun hk4 => ?_)
      · have hke : k < f[m + 1].2.length := by omega
        refine DIdx.intro (m + 1) rfl rfl hif ?_
        refine DIdx.intro k rfl rfl (by omega) ?_
        refine DLoad.scalar ((hce.ext hx8).get k _ (expV_get hke)) ?_
        refine DWrap.is ((k + 1 : Nat) : Int) (by omega) (by omega) ?_
        exact ⟨k + 1, ⟨rfl, rfl, rfl, trivial⟩, ⟨hx8, by omega⟩, by omega⟩
      · refine DWrap.is ((m + 1 + 1 : Nat) : Int) (by omega) (by omega) ?_
        exact ⟨m + 1 + 1, ⟨rfl, rfl, trivial⟩, ⟨hx8, by omega⟩, by omega⟩
    · refine DLoop.intro hE (ι := Nat) (fun k => [(5, .int .i64 k), (3, .int .i64 i), (0, .slice (some ⟨b, off, none⟩) f.length cap)]) (fun k h'' => Ext h h'' ∧ k ≤ 4) (fun k => 4 - k) 0 rfl ⟨rfl, rfl, rfl, trivial⟩ ⟨hx4.trans hx5, Nat.zero_le _⟩ ?_
      rintro k h8 ⟨hx8, hk⟩
      refine bsp.dec (fun hk4 => ?_) (fun hk4 => ?_)
      · have hke : k < f[i].2.length := by omega
        refine DIdx.intro i rfl rfl hif ?_
        refine DIdx.intro k rfl rfl (by omega) ?_
        refine DLoad.scalar ((hce.ext hx8).get k _ (expV_get hke)) ?_
        refine DWrap.is ((k + 1 : Nat) : Int) (by omega) (by omega) ?_
        exact ⟨k + 1, ⟨rfl, rfl, rfl, trivial⟩, ⟨hx8, by omega⟩, by omega⟩
      · refine DWrap.is ((i + 1 : Nat) : Int) (by omega) (by omega) ?_
        exact ⟨i + 1, ⟨rfl, rfl, trivial⟩, ⟨hx8, by omega⟩, by omega⟩
  · exact ⟨hx1, rfl⟩
end Go.Vc
