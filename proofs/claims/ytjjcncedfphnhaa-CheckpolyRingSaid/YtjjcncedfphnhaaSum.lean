/- CheckpolySums returns true: its walk, and its law. -/
import Derived.Test.YtjjcncedfphnhaaAt
import Derived.Test.YtjjcncedfphnhaaCpc
import Derived.Test.YtjjcncedfphnhaaVf
namespace Go.Vc
open Go.Proofs

theorem polyAdd_any (h : Heap) (v1 v2 : Value) (p q : Pol) (hp : PolyAt h v1 p) (hq : PolyAt h v2 q) (hlp : p.length < 20) (hlq : q.length < 20) (hb : norm1 p + norm1 q < big) :
    Spec E.P f_checkpoly_Add #[v1, v2] h (fun v' h' => Ext h h' ∧ ∃ z, PolyAt h' v' z ∧ IsSum p q z) := by
  refine Spec.intro hE (args := [_, _]) F_checkpoly_Add rfl rfl (Nat.le_of_ble_eq_true rfl) ?_
  refine (Normal_any h v1 p hp hlp (by omega)).mono ?_
  rintro w1 h1 ⟨hx1, f, hf, hcf, hef, hnf, hlf⟩
  refine (Normal_any h1 v2 q (hq.ext hx1) hlq (by omega)).mono ?_
  rintro w2 h2 ⟨hx2, g, hg, hcg, heg, hng, hlg⟩
  refine (add_any h2 w1 w2 f g (hf.ext hx2) hg hcf hcg (by omega) (by omega)).mono ?_
  rintro w3 h3 ⟨hx3, z, hz, hs⟩
  refine ⟨hx1.trans (hx2.trans hx3), z, hz, hs.canon, fun e => by rw [hs.cf, hef, heg], ?_, ?_⟩
  · have := hs.norm; omega
  · have := hs.len; omega

theorem polySub_any (h : Heap) (v1 v2 : Value) (p q : Pol) (hp : PolyAt h v1 p) (hq : PolyAt h v2 q) (hlp : p.length < 20) (hlq : q.length < 20) (hb : norm1 p + norm1 q < big) :
    Spec E.P f_checkpoly_Sub #[v1, v2] h (fun v' h' => Ext h h' ∧ ∃ z, PolyAt h' v' z ∧ IsSum p (negP q) z) := by
  refine Spec.intro hE (args := [_, _]) F_checkpoly_Sub rfl rfl (Nat.le_of_ble_eq_true rfl) ?_
  refine (Normal_any h v1 p hp hlp (by omega)).mono ?_
  rintro w1 h1 ⟨hx1, f, hf, hcf, hef, hnf, hlf⟩
  refine (Normal_any h1 v2 q (hq.ext hx1) hlq (by omega)).mono ?_
  rintro w2 h2 ⟨hx2, g, hg, hcg, heg, hng, hlg⟩
  refine (negate_any h2 w2 g hg (by omega) (by omega)).mono ?_
  rintro w3 h3 ⟨hx3, hg3⟩
  have hln : (negP g).length = g.length := by simp [negP]
  refine (add_any h3 w1 w3 f (negP g) (hf.ext (hx2.trans hx3)) hg3 hcf hcg.neg (by rw [norm1_neg]; omega) (by omega)).mono ?_
  rintro w4 h4 ⟨hx4, z, hz, hs⟩
  have hlq' : (negP q).length = q.length := by simp [negP]
  refine ⟨hx1.trans (hx2.trans (hx3.trans hx4)), z, hz, hs.canon, fun e => by rw [hs.cf, hef, cf_neg, cf_neg, heg], ?_, ?_⟩
  · have := hs.norm; rw [norm1_neg] at this ⊢; omega
  · have := hs.len; omega

theorem cf_pmul_congr {f f' g g' : Pol} (h1 : ∀ e, cf f e = cf f' e) (h2 : ∀ e, cf g e = cf g' e) (l1 : L4 f) (l2 : L4 f') (l3 : L4 g) (l4 : L4 g') : ∀ x, den x (pmulP f g) = den x (pmulP f' g') := fun x => by
  rw [den_pmul x l1 l3, den_pmul x l2 l4, den_congr x h1, den_congr x h2]

theorem polyMul_any (h : Heap) (v1 v2 : Value) (p q : Pol) (hp : PolyAt h v1 p) (hq : PolyAt h v2 q) (B : Nat) (hB : B ≤ 4611686018427387903) (hpB : ExpB p B) (hqB : ExpB q B) (hlp : p.length < 20) (hlq : q.length < 20) (hb1 : norm1 p < big) (hb2 : norm1 q < big) (hb : norm1 p * norm1 q < big) :
    Spec E.P f_checkpoly_Mul #[v1, v2] h (fun v' h' => Ext h h' ∧ ∃ f g z, PolyAt h' v' z ∧ Canon f ∧ Canon g ∧ (∀ e, cf f e = cf p e) ∧ (∀ e, cf g e = cf q e) ∧ IsProd f g z ∧ norm1 f ≤ norm1 p ∧ norm1 g ≤ norm1 q ∧ f.length ≤ p.length ∧ g.length ≤ q.length) := by
  refine Spec.intro hE (args := [_, _]) F_checkpoly_Mul rfl rfl (Nat.le_of_ble_eq_true rfl) ?_
  refine (Normal_any h v1 p hp hlp hb1).mono ?_
  rintro w1 h1 ⟨hx1, f, hf, hcf, hef, hnf, hlf⟩
  refine (Normal_any h1 v2 q (hq.ext hx1) hlq hb2).mono ?_
  rintro w2 h2 ⟨hx2, g, hg, hcg, heg, hng, hlg⟩
  have hm : norm1 f * norm1 g ≤ norm1 p * norm1 q := Nat.mul_le_mul hnf hng
  refine (mul_any B hB _ h2 w1 w2 f g (Nat.le_refl _) (hf.ext hx2) hg hcf hcg (hcf.expB hef hpB) (hcg.expB heg hqB) (by omega) (by omega) (by omega) (by omega) (by omega)).mono ?_
  rintro w3 h3 ⟨hx3, z, hz, hs⟩
  exact ⟨hx1.trans (hx2.trans hx3), f, g, z, hz, hcf, hcg, hef, heg, hs, hnf, hng, hlf, hlg⟩

theorem Same_any (h : Heap) (v1 v2 : Value) (p q f g : Pol) (hp : PolyAt h v1 p) (hq : PolyAt h v2 q) (hbp : norm1 p < big) (hbq : norm1 q < big) (hlp : p.length < 20) (hlq : q.length < 20)
    (hf : Canon f) (hg : Canon g) (hfp : ∀ e, cf f e = cf p e) (hgq : ∀ e, cf g e = cf q e) :
    Spec E.P f_checkpoly_Same #[v1, v2] h (fun v h' => Ext h h' ∧ v = .bool (decide (f = g))) := by
  refine Spec.intro hE (args := [_, _]) F_checkpoly_Same rfl rfl (Nat.le_of_ble_eq_true rfl) ?_
  refine (Compare_any h v1 v2 p q f g hp hq hbp hbq hlp hlq hf hg hfp hgq).mono ?_
  rintro _ h1 ⟨hx1, rfl⟩
  refine ⟨hx1, ?_⟩
  show Value.bool _ = Value.bool _
  congr 1
  rw [Bool.eq_iff_iff]
  simp only [beq_iff_eq, decide_eq_true_eq]
  exact cmpP_zero hf.l4 hg.l4

theorem pmul_expB {f g : Pol} {B : Nat} (hf : ExpB f B) (hg : ExpB g B) : ExpB (pmulP f g) (B + B) := by
  induction f with
  | nil => intro t ht; exact (List.not_mem_nil ht).elim
  | cons s r ih =>
    intro t ht x hx
    rcases List.mem_append.1 ht with ht | ht
    · obtain ⟨u, hu, rfl⟩ := List.mem_map.1 ht
      have hx' : x ∈ List.zipWith (· + ·) u.2 s.2 := hx
      obtain ⟨j, hj, rfl⟩ := List.getElem_of_mem hx'
      have hj' := hj
      simp only [List.length_zipWith] at hj'
      rw [List.getElem_zipWith]
      have h1 := hg u hu _ (List.getElem_mem (show j < u.2.length by omega))
      have h2 := hf s List.mem_cons_self _ (List.getElem_mem (show j < s.2.length by omega))
      omega
    · exact ih (fun u hu => hf u (List.mem_cons_of_mem _ hu)) t ht x hx

theorem intV_ones (x : List Int) : (intV x).all Value.oneCell' = true := by
  rw [List.all_eq_true]; intro v hv; obtain ⟨a, -, rfl⟩ := List.mem_map.1 hv; rfl

/-- another block's store does not touch a polynomial: that block holds no bool -/
theorem PolyAt.upd {h h' : Heap} {b : Nat} {o : Obj} {c : Array Value} {e : TypeId} (u : Upd h b o h') (hb : h[b]? = some (.cells c e (0, 0))) (he : e ≠ t_uint32) (hc : ∀ (k : Nat) (x : Bool), c[k]? ≠ some (Value.bool x)) {v : Value} {p : Pol} (hp : PolyAt h v p) : PolyAt h' v p := by
  obtain ⟨a, cap, hv, hcap, hA⟩ := hp
  by_cases hne : p = []
  · subst hne
    exact ⟨a, cap, hv, ⟨hcap.1, hcap.2.1, fun _ _ _ _ h => absurd rfl h⟩, fun h => absurd rfl h⟩
  obtain ⟨b', off, ha, hcs⟩ := hA hne
  have hbne : b' ≠ b := by
    rintro rfl
    obtain ⟨cs, ht, hcell⟩ := hcs 0 (List.length_pos_iff.2 hne)
    obtain ⟨a5, cap5, e0, e1, e2, e3, -, hce, -⟩ := ht.form
    have h0 := hcell.get 0 _ (by rw [hce]; rfl)
    unfold cell at h0
    rw [hb] at h0
    exact hc _ _ h0
  refine ⟨a, cap, hv, ⟨hcap.1, hcap.2.1, fun b2 off2 s2 e2 h2 => ?_⟩, fun _ => ⟨b', off, ha, fun j hj => ?_⟩⟩
  · obtain ⟨c2, fr2, hb2⟩ := hcap.2.2 b2 off2 s2 e2 h2
    refine ⟨c2, fr2, u.at_ne hb2 ?_⟩
    rw [ha] at e2
    injection e2 with e2
    injection e2 with e2 _ _
    rw [← e2]; exact hbne
  obtain ⟨cs, ht, hcell⟩ := hcs j hj
  exact ⟨cs, ht.u32 (u.u32 hb he), CellsAt.mk fun k w hk => u.cell_ne (hcell.get k w hk) hbne⟩

theorem noBool4 : ∀ (k : Nat) (x : Bool), (#[Value.int .i64 0, .int .i64 0, .int .i64 0, .int .i64 0] : Array Value)[k]? ≠ some (Value.bool x) := by
  intro k x h
  match k with
  | 0 => simp at h
  | 1 => simp at h
  | 2 => simp at h
  | 3 => simp at h
  | k + 4 => simp at h

theorem MonosAt.norm128 {h : Heap} {v : Value} {l : Pol} (hm : MonosAt h v l) : norm1 l ≤ 128 * l.length ∧ L4 l := by
  obtain ⟨a, cap, -, -, hm⟩ := hm
  refine ⟨norm1_le fun t ht => ?_, fun t ht => ?_⟩
  · obtain ⟨j, hj, rfl⟩ := List.getElem_of_mem ht
    obtain ⟨b, off, -, hc⟩ := hm (by intro e; subst e; simp at hj)
    obtain ⟨⟨h1, h2, -⟩, -⟩ := hc j hj
    omega
  · obtain ⟨j, hj, rfl⟩ := List.getElem_of_mem ht
    obtain ⟨b, off, -, hc⟩ := hm (by intro e; subst e; simp at hj)
    exact (hc j hj).1.2.2.1

def XOk (a : Int) : Prop := -128 ≤ a ∧ a ≤ 127

set_option maxHeartbeats 3200000 in
theorem CheckpolySums_any (h : Heap) (v1 v2 : Value) (p q : Pol) (a0 a1 a2 a3 : Int) (hp : MonosAt h v1 p) (hq : MonosAt h v2 q) (k0 : XOk a0) (k1 : XOk a1) (k2 : XOk a2) (k3 : XOk a3) :
    Spec E.P f_cylinderlaw54_CheckpolySums #[v1, v2, .agg #[.int .i8 a0, .int .i8 a1, .int .i8 a2, .int .i8 a3]] h (fun v h' => Ext h h' ∧ v = .bool true) := by
  refine Spec.intro hE (args := [_, _, _]) F_cylinderlaw54_CheckpolySums rfl rfl (Nat.le_of_ble_eq_true rfl) ?_
  refine DNew.intro ?_
  intro tb h0 htb hx0 hs0 hg0
  refine (awake_any h0).mono ?_
  rintro _ h1 ⟨hx01, rfl⟩
  have hx1 := hx0.trans hx01
  have hw1 : Whole h1 tb t_ar4_int8 [.int .i8 a0, .int .i8 a1, .int .i8 a2, .int .i8 a3] := hx01.at hg0
  refine (Few_any h1 v1 p 6 3 (hp.ext hx1) (by decide)).mono ?_
  rintro _ h1 ⟨rfl, b1, rfl, hb1⟩
  have hret : ∀ h1, Ext h h1 → Spec E.P f_cylinderlaw54_awake #[] h1 (fun v h' => Ext h h' ∧ v = .bool true) := fun h1 hx => (awake_any h1).mono fun v h2 hh => ⟨hx.trans hh.1, hh.2⟩
  cases b1
  · refine (hret h1 hx1).mono ?_
    rintro _ h2 hh
    exact hh
  refine (Few_any h1 v2 q 6 3 (hq.ext hx1) (by decide)).mono ?_
  rintro _ h1 ⟨rfl, b2, rfl, hb2⟩
  cases b2
  · refine (hret h1 hx1).mono ?_
    rintro _ h2 hh
    exact hh
  have hlp := (hb1 rfl).1
  have hlq := (hb2 rfl).1
  have hpB := (hb1 rfl).2
  have hqB := (hb2 rfl).2
  have np := hp.norm hlp (by decide)
  have nq := hq.norm hlq (by decide)
  have hwide := fun h => wide_any h a0 a1 a2 a3 k0 k1 k2 k3
  have m0 := i8_tmod k0
  have m1 := i8_tmod k1
  have m2 := i8_tmod k2
  have m3 := i8_tmod k3
  have hxM : ∀ a ∈ [a0.tmod 7, a1.tmod 7, a2.tmod 7, a3.tmod 7], a.natAbs ≤ 6 := by
    intro a ha; simp at ha; omega
  have hx4 : [a0.tmod 7, a1.tmod 7, a2.tmod 7, a3.tmod 7].length = 4 := rfl
  generalize [a0.tmod 7, a1.tmod 7, a2.tmod 7, a3.tmod 7] = x at *
  refine DDraw.cut (ι := Value × Value × Nat) (fun s => [(7, s.1), (8, s.2.1), (9, .pointer (some ⟨s.2.2, 0, none⟩)), (0, v1), (1, v2)])
    (fun s h' => Ext h h' ∧ PolyAt h' s.1 p ∧ PolyAt h' s.2.1 q ∧ Whole h' s.2.2 t_ar4_int (intV x)) ?_ ?_
  · refine DDraw.intro hE (.take 0 (.take 2 (.take 4 (.two 1 6 (.two 3 6 (.two 5 6 (.one 6 (.take 7 (.take 8 (.one 9 .done)))) (.one 5 (.take 7 (.take 8 (.one 9 .done))))) (.one 3 (.one 5 (.take 7 (.take 8 (.one 9 .done)))))) (.one 1 (.one 3 (.one 5 (.take 7 (.take 8 (.one 9 .done)))))))))) (some 9) (Ext h1 ·) (by kernel_rfl) Ext.rfl ?_
    refine QLoad.agg [.int .i8 a0, .int .i8 a1, .int .i8 a2, .int .i8 a3] rfl (fun _ e => (hw1.ext e).cellsAt) ?_
    refine ⟨?_, ?_⟩
    · refine (Poly_any h1 v1 p (hp.ext (hx1.trans Ext.rfl)) (by omega)).mono ?_
      rintro u1 g11 ⟨hxg11, hu1⟩
      have e11 : Ext h1 g11 := (Ext.rfl (h := h1)).trans hxg11
      refine ⟨e11, ?_⟩
      refine ⟨?_, ?_⟩
      · refine (Poly_any g11 v2 q (hq.ext (hx1.trans e11)) (by omega)).mono ?_
        rintro u2 g12 ⟨hxg12, hu2⟩
        have e12 : Ext h1 g12 := e11.trans hxg12
        have hu1 := hu1.ext hxg12
        refine ⟨e12, ?_⟩
        refine ⟨?_, ?_⟩
        · refine (hwide g12).mono ?_
          rintro _ g13 ⟨hxg13, rfl⟩
          have e13 : Ext h1 g13 := e12.trans hxg13
          have hu1 := hu1.ext hxg13
          have hu2 := hu2.ext hxg13
          refine ⟨e13, ?_⟩
          refine DNew.intro ?_
          intro b9 g14 hb9 hxg14 hs9 hg9
          have e14 : Ext h1 g14 := e13.trans hxg14
          have hu1 := hu1.ext hxg14
          have hu2 := hu2.ext hxg14
          have hb1 : h1.size ≤ b9 := by have := (e13).size; omega
          refine ⟨e14, ?_⟩
          refine DStore.full (vs := intV x) hg9 rfl (by simp [intV, hx4]) rfl (intV_ones x) ?_
          intro gz huz
          have hold := (Old.rfl (B := h1.size).ext e14 (Nat.le_refl _)).upd huz hb1
          have hu32 := huz.u32 hg9 (by decide)
          exact ⟨(u1, u2, b9), ⟨rfl, rfl, rfl, rfl, rfl, trivial⟩, hx1.trans hold.toExt, hu1.upd huz hg9 (by decide) noBool4, hu2.upd huz hg9 (by decide) noBool4, huz.at_⟩
        · refine DNew.intro ?_
          intro b9 g15 hb9 hxg15 hs9 hg9
          have e15 : Ext h1 g15 := e12.trans hxg15
          have hu1 := hu1.ext hxg15
          have hu2 := hu2.ext hxg15
          have hb1 : h1.size ≤ b9 := by have := (e12).size; omega
          refine ⟨e15, ?_⟩
          refine (hwide g15).mono ?_
          rintro _ g16 ⟨hxg16, rfl⟩
          have e16 : Ext h1 g16 := e15.trans hxg16
          have hu1 := hu1.ext hxg16
          have hu2 := hu2.ext hxg16
          have hg9 := hxg16.at hg9
          refine ⟨e16, ?_⟩
          refine DStore.full (vs := intV x) hg9 rfl (by simp [intV, hx4]) rfl (intV_ones x) ?_
          intro gz huz
          have hold := (Old.rfl (B := h1.size).ext e16 (Nat.le_refl _)).upd huz hb1
          have hu32 := huz.u32 hg9 (by decide)
          exact ⟨(u1, u2, b9), ⟨rfl, rfl, rfl, rfl, rfl, trivial⟩, hx1.trans hold.toExt, hu1.upd huz hg9 (by decide) noBool4, hu2.upd huz hg9 (by decide) noBool4, huz.at_⟩
      · refine DNew.intro ?_
        intro b9 g17 hb9 hxg17 hs9 hg9
        have e17 : Ext h1 g17 := e11.trans hxg17
        have hu1 := hu1.ext hxg17
        have hb1 : h1.size ≤ b9 := by have := (e11).size; omega
        refine ⟨e17, ?_⟩
        refine (Poly_any g17 v2 q (hq.ext (hx1.trans e17)) (by omega)).mono ?_
        rintro u2 g18 ⟨hxg18, hu2⟩
        have e18 : Ext h1 g18 := e17.trans hxg18
        have hu1 := hu1.ext hxg18
        have hg9 := hxg18.at hg9
        refine ⟨e18, ?_⟩
        refine (hwide g18).mono ?_
        rintro _ g19 ⟨hxg19, rfl⟩
        have e19 : Ext h1 g19 := e18.trans hxg19
        have hu1 := hu1.ext hxg19
        have hg9 := hxg19.at hg9
        have hu2 := hu2.ext hxg19
        refine ⟨e19, ?_⟩
        refine DStore.full (vs := intV x) hg9 rfl (by simp [intV, hx4]) rfl (intV_ones x) ?_
        intro gz huz
        have hold := (Old.rfl (B := h1.size).ext e19 (Nat.le_refl _)).upd huz hb1
        have hu32 := huz.u32 hg9 (by decide)
        exact ⟨(u1, u2, b9), ⟨rfl, rfl, rfl, rfl, rfl, trivial⟩, hx1.trans hold.toExt, hu1.upd huz hg9 (by decide) noBool4, hu2.upd huz hg9 (by decide) noBool4, huz.at_⟩
    · refine DNew.intro ?_
      intro b9 g20 hb9 hxg20 hs9 hg9
      have e20 : Ext h1 g20 := (Ext.rfl (h := h1)).trans hxg20
      have hb1 : h1.size ≤ b9 := by omega
      refine ⟨e20, ?_⟩
      refine (Poly_any g20 v1 p (hp.ext (hx1.trans e20)) (by omega)).mono ?_
      rintro u1 g21 ⟨hxg21, hu1⟩
      have e21 : Ext h1 g21 := e20.trans hxg21
      have hg9 := hxg21.at hg9
      refine ⟨e21, ?_⟩
      refine (Poly_any g21 v2 q (hq.ext (hx1.trans e21)) (by omega)).mono ?_
      rintro u2 g22 ⟨hxg22, hu2⟩
      have e22 : Ext h1 g22 := e21.trans hxg22
      have hg9 := hxg22.at hg9
      have hu1 := hu1.ext hxg22
      refine ⟨e22, ?_⟩
      refine (hwide g22).mono ?_
      rintro _ g23 ⟨hxg23, rfl⟩
      have e23 : Ext h1 g23 := e22.trans hxg23
      have hg9 := hxg23.at hg9
      have hu1 := hu1.ext hxg23
      have hu2 := hu2.ext hxg23
      refine ⟨e23, ?_⟩
      refine DStore.full (vs := intV x) hg9 rfl (by simp [intV, hx4]) rfl (intV_ones x) ?_
      intro gz huz
      have hold := (Old.rfl (B := h1.size).ext e23 (Nat.le_refl _)).upd huz hb1
      have hu32 := huz.u32 hg9 (by decide)
      exact ⟨(u1, u2, b9), ⟨rfl, rfl, rfl, rfl, rfl, trivial⟩, hx1.trans hold.toExt, hu1.upd huz hg9 (by decide) noBool4, hu2.upd huz hg9 (by decide) noBool4, huz.at_⟩
  · rintro ⟨u1, u2, b9⟩ h2 ⟨hx2, hu1, hu2, hw9⟩
    dsimp only at hu1 hu2 hw9 ⊢
    obtain ⟨n128p, hLp⟩ := hp.norm128
    obtain ⟨n128q, hLq⟩ := hq.norm128
    have e612 : (6 : Nat) ^ (3 * 4) = 2176782336 := by decide
    have bigp : norm1 p * 6 ^ (3 * 4) ≤ 768 * 2176782336 := by rw [e612]; exact Nat.mul_le_mul_right _ (by omega)
    have bigq : norm1 q * 6 ^ (3 * 4) ≤ 768 * 2176782336 := by rw [e612]; exact Nat.mul_le_mul_right _ (by omega)
    have hAp := den_le 6 (by decide) 3 x hxM p hLp hpB
    have hAq := den_le 6 (by decide) 3 x hxM q hLq hqB
    refine DDraw.intro hE (.take 0 (.take 3 (.take 1 (.take 4 (.one 2 (.one 5 (.take 6 (.take 7 .done)))))))) none (Ext h2 ·) (by kernel_rfl) Ext.rfl ?_
    refine QLoad.agg (intV x) (by simp [intV, hx4]) (fun _ e => (hw9.ext e).cellsAt) ?_
    refine QLoad.agg (intV x) (by simp [intV, hx4]) (fun _ e => (hw9.ext e).cellsAt) ?_
    refine (At_any h2 v1 p x (hp.ext hx2) hx4 6 3 (by decide) hxM hpB (by omega) (by omega)).mono ?_
    rintro _ h3 ⟨hx23, rfl⟩
    refine ⟨hx23, ?_⟩
    refine (At_any h3 v2 q x (hq.ext (hx2.trans hx23)) hx4 6 3 (by decide) hxM hqB (by omega) (by omega)).mono ?_
    rintro _ h4 ⟨hx34, rfl⟩
    have hx24 := hx23.trans hx34
    refine ⟨hx24, ?_⟩
    have bnum : (1000000000 : Nat) < big := by decide
    refine (polyAdd_any h4 u1 u2 p q (hu1.ext hx24) (hu2.ext hx24) (by omega) (by omega) (by omega)).mono ?_
    rintro w1 h5 ⟨hx45, z1, hz1, hs1⟩
    have hx25 := hx24.trans hx45
    refine (polySub_any h5 u1 u2 p q (hu1.ext hx25) (hu2.ext hx25) (by omega) (by omega) (by omega)).mono ?_
    rintro w2 h6 ⟨hx56, z2, hz2, hs2⟩
    have hx26 := hx25.trans hx56
    refine (Normal_any h6 u1 p (hu1.ext hx26) (by omega) np).mono ?_
    rintro w3 h7 ⟨hx67, z3, hz3, hc3, he3, hn3, hl3⟩
    have hz10 := hz1.ext (hx56.trans hx67)
    have hz20 := hz2.ext hx67
    have hz30 := hz3
    obtain ⟨aa1, cc1, rfl, -⟩ := hz1
    obtain ⟨aa2, cc2, rfl, -⟩ := hz2
    obtain ⟨aa3, cc3, rfl, -⟩ := hz3
    refine ⟨⟨rfl, by decide, rfl, rfl, rfl, rfl, rfl, rfl, trivial⟩, ?_⟩
    refine DNew.intro ?_
    intro lb h8 hlb hx78 hs8 hg8
    refine DWrap.is (den x p + den x q) rfl (by omega) ?_
    refine DWrap.is (den x p - den x q) rfl (by omega) ?_
    refine ⟨⟨rfl, by decide, rfl, rfl, rfl, rfl, rfl, rfl, trivial⟩, ?_⟩
    refine DNew.intro ?_
    intro nb h9 hnb hx89 hs9 hg9
    have hx79 := hx78.trans hx89
    have hx29 := hx26.trans (hx67.trans hx79)
    have hwl : Whole h9 lb t_checkpoly_Poly [.slice aa1 z1.length cc1, .slice aa2 z2.length cc2, .slice aa3 z3.length cc3] := hx89.at hg8
    have hwn : Whole h9 nb t_int [.int .i64 (den x p + den x q), .int .i64 (den x p - den x q), .int .i64 (den x p)] := hg9
    have hw99 := hw9.ext hx29
    -- what the three are
    have each : ∀ i, i < 3 → ∃ w z n, [Value.slice aa1 z1.length cc1, .slice aa2 z2.length cc2, .slice aa3 z3.length cc3][i]? = some w ∧ [Value.int .i64 (den x p + den x q), .int .i64 (den x p - den x q), .int .i64 (den x p)][i]? = some (.int .i64 n) ∧
        PolyAt h9 w z ∧ Canon z ∧ ExpB z 3 ∧ norm1 z ≤ 1536 ∧ z.length ≤ 12 ∧ den x z = n ∧ -9000000000000 ≤ n ∧ n ≤ 9000000000000 := by
      have hneg : ExpB (negP q) 3 := fun t ht y hy => by
        obtain ⟨s, hs, rfl⟩ := List.mem_map.1 ht
        exact hqB s hs y hy
      have happ : ∀ {f g : Pol}, ExpB f 3 → ExpB g 3 → ExpB (f ++ g) 3 := fun h1 h2 t ht => by
        rcases List.mem_append.1 ht with ht | ht
        · exact h1 t ht
        · exact h2 t ht
      intro i hi
      match i, hi with
      | 0, _ =>
        have c1 := hs1.cf
        refine ⟨_, z1, _, rfl, rfl, hz10.ext hx79, hs1.canon, hs1.canon.expB (p := p ++ q) (fun e => by rw [c1, cf_append]) (happ hpB hqB), by have := hs1.norm; omega, by have := hs1.len; omega, ?_, by omega, by omega⟩
        rw [den_congr x (q := p ++ q) (fun e => by rw [c1, cf_append]), den_append]
      | 1, _ =>
        have c1 := hs2.cf
        refine ⟨_, z2, _, rfl, rfl, hz20.ext hx79, hs2.canon, hs2.canon.expB (p := p ++ negP q) (fun e => by rw [c1, cf_append]) (happ hpB hneg), by have := hs2.norm; rw [norm1_neg] at this; omega, by have := hs2.len; simp [negP] at this; omega, ?_, by omega, by omega⟩
        rw [den_congr x (q := p ++ negP q) (fun e => by rw [c1, cf_append]), den_append, den_neg]; omega
      | 2, _ => exact ⟨_, z3, _, rfl, rfl, hz30.ext hx79, hc3, hc3.expB he3 hpB, by omega, by omega, den_congr x he3, by omega, by omega⟩
    refine DLoop.intro hE (ι := Nat) (fun i => [(14, .int .i64 i), (12, .slice (some ⟨lb, 0, none⟩) 3 3), (13, .slice (some ⟨nb, 0, none⟩) 3 3), (9, .pointer (some ⟨b9, 0, none⟩)), (7, u1), (8, u2), (10, .int .i64 (den x p)), (11, .int .i64 (den x q))])
      (fun i h' => Ext h9 h' ∧ i ≤ 3) (fun i => 3 - i) 0 rfl ⟨rfl, rfl, rfl, rfl, rfl, rfl, rfl, rfl, trivial⟩ ⟨Ext.rfl, Nat.zero_le _⟩ ?_
    rintro i h10 ⟨hx910, hi⟩
    refine bsp.dec (fun hlt => ?_) (fun hlt => ?_)
    · have hi3 : i < 3 := by omega
      obtain ⟨w, z, n, hw, hn, hz, hcz, hzB, hzn, hzl, hden, hn1, hn2⟩ := each i hi3
      have e1212 : 1536 * 2176782336 < big := by decide
      have hzz : norm1 z * 6 ^ (3 * 4) ≤ 1536 * 2176782336 := by rw [e612]; exact Nat.mul_le_mul_right _ hzn
      refine DDraw.intro hE (.take 0 (.take 1 (.take 2 (.take 3 (.one 4 (.take 5 (.take 6 (.take 7 (.take 8 (.take 9 (.take 12 (.take 13 (.take 14 (.take 10 (.take 11 (.take 15 (.one 16 (.take 17 (.take 18 .done))))))))))))))))))) none (Ext h9 ·) (by kernel_rfl) hx910 ?_
      refine DIdx.intro i rfl rfl hi3 ?_
      refine QLoad.scalar (fun _ e => (hwl.ext e).get _ (by rw [Nat.zero_add]; exact hw)) ?_
      refine (Canonical_any h10 w z (hz.ext hx910) hcz (by omega) (by omega)).mono ?_
      rintro _ h11 ⟨hx11, rfl⟩
      have hx911 := hx910.trans hx11
      refine ⟨hx911, ?_⟩
      refine DIdx.intro i rfl rfl hi3 ?_
      refine DIdx.intro i rfl rfl hi3 ?_
      refine QLoad.scalar (fun _ e => (hwl.ext e).get _ (by rw [Nat.zero_add]; exact hw)) ?_
      refine QLoad.agg (intV x) (by simp [intV, hx4]) (fun _ e => (hw99.ext e).cellsAt) ?_
      refine QLoad.scalar (fun _ e => (hwn.ext e).get _ (by rw [Nat.zero_add]; exact hn)) ?_
      refine (is_any h11 w z x n (hz.ext hx911) hx4 6 3 (by omega) (by omega) hxM hzB (by omega) (Nat.lt_of_le_of_lt hzz e1212) (by omega) hcz.l4 (by omega)).mono ?_
      rintro _ h12 ⟨hx12, rfl⟩
      refine ⟨hx911.trans hx12, ?_⟩
      rw [decide_eq_true hden]
      refine DWrap.is ((i + 1 : Nat) : Int) (by omega) (by omega) ?_
      exact ⟨i + 1, ⟨rfl, rfl, rfl, rfl, rfl, rfl, rfl, rfl, trivial⟩, ⟨hx911.trans hx12, by omega⟩, by omega⟩
    · have hx210 := hx29.trans hx910
      have hu1' := hu1.ext hx210
      have hu2' := hu2.ext hx210
      have hpq : norm1 p * norm1 q ≤ 768 * 768 := Nat.mul_le_mul (by omega) (by omega)
      refine (polyMul_any h10 u1 u2 p q hu1' hu2' 3 (by decide) hpB hqB (by omega) (by omega) np nq (by omega)).mono ?_
      rintro w4 h11 ⟨hx11, f, g, z, hz, hcf, hcg, hef, heg, hs, hnf, hng, hlf, hlg⟩
      have hfg : norm1 f * norm1 g ≤ norm1 p * norm1 q := Nat.mul_le_mul hnf hng
      have hzn := hs.norm
      have hlfg : f.length * g.length ≤ 6 * 6 := Nat.mul_le_mul (by omega) (by omega)
      have hzl := hs.len
      have hx211 := hx210.trans hx11
      refine (Canonical_any h11 w4 z hz hs.canon (by omega) (by omega)).mono ?_
      rintro _ h12 ⟨hx12, rfl⟩
      have hx212 := hx211.trans hx12
      have hzB : ExpB z 6 := hs.canon.expB hs.cf (pmul_expB (hcf.expB hef hpB) (hcg.expB heg hqB))
      have e624 : (6 : Nat) ^ (6 * 4) = 4738381338321616896 := by decide
      have hzz : norm1 z * 6 ^ (6 * 4) ≤ 589824 * 4738381338321616896 := by rw [e624]; exact Nat.mul_le_mul_right _ (by omega)
      have bz : 589824 * 4738381338321616896 < big := by decide
      have hden : den x z = den x p * den x q := by rw [den_congr x hs.cf, den_pmul x hcf.l4 hcg.l4, den_congr x hef, den_congr x heg]
      refine DLoad.agg (intV x) (by simp [intV, hx4]) (hw9.ext hx212).cellsAt ?_
      refine (value_any h12 w4 z x (hz.ext hx12) hx4 6 6 (by omega) (by omega) hxM hzB (by omega) (Nat.lt_of_le_of_lt hzz bz) (by omega)).mono ?_
      rintro v13 h13 ⟨hx13, hi13⟩
      refine (integer_Of_any h13 (den x p) (by omega)).mono ?_
      rintro v14 h14 ⟨hx14, hi14⟩
      refine (integer_Of_any h14 (den x q) (by omega)).mono ?_
      rintro v15 h15 ⟨hx15, hi15⟩
      have hdp : (digs (den x p).natAbs).length ≤ 32 := digs_bound (by have : (9000000000000 : Nat) < big := by decide
                                                                       omega)
      have hdq : (digs (den x q).natAbs).length ≤ 32 := digs_bound (by have : (9000000000000 : Nat) < big := by decide
                                                                       omega)
      refine (integer_Mul_any h15 _ _ _ _ (hi14.ext hx15) hi15 (by omega) (by omega)).mono ?_
      rintro v16 h16 ⟨hx16, hi16⟩
      have hdz : (digs (den x z).natAbs).length ≤ 32 := digs_bound (Nat.lt_of_le_of_lt (den_le 6 (by omega) 6 x hxM z hs.canon.l4 hzB) (Nat.lt_of_le_of_lt hzz bz))
      have hdz' : (digs (den x p * den x q).natAbs).length ≤ 32 := by rw [← hden]; exact hdz
      refine (integer_Cmp_any h16 _ _ _ _ (hi13.ext (hx14.trans (hx15.trans hx16))) hi16 (by omega) (by omega)).mono ?_
      rintro _ h17 ⟨hx17, rfl⟩
      rw [hden, cmpI_eq_zero.2 rfl]
      have hx217 := hx212.trans (hx13.trans (hx14.trans (hx15.trans (hx16.trans hx17))))
      refine (Same_any h17 u1 u2 p q f g (hu1.ext hx217) (hu2.ext hx217) np nq (by omega) (by omega) hcf hcg hef heg).mono ?_
      rintro _ h18 ⟨hx18, rfl⟩
      have hx218 := hx217.trans hx18
      refine (Normal_any h18 u1 p (hu1.ext hx218) (by omega) np).mono ?_
      rintro w5 h19 ⟨hx19, f', hf', hcf', hef', hnf', hlf'⟩
      obtain rfl : f' = f := canon_unique hcf' hcf fun e _ => by rw [hef', hef]
      have hx219 := hx218.trans hx19
      refine (Normal_any h19 u2 q (hu2.ext hx219) (by omega) nq).mono ?_
      rintro w6 h20 ⟨hx20, g', hg', hcg', heg', hng', hlg'⟩
      obtain rfl : g' = g := canon_unique hcg' hcg fun e _ => by rw [heg', heg]
      refine (equal_any h20 w5 w6 f' g' (hf'.ext hx20) hg' (by omega) (by omega) (by omega) (by omega)).mono ?_
      rintro _ h21 ⟨hx21, rfl⟩
      refine ⟨hx2.trans (hx219.trans (hx20.trans hx21)), ?_⟩
      show Value.bool (decide (f' = g') == decide (f' = g')) = Value.bool true
      rw [beq_self_eq_true]
end Go.Vc
