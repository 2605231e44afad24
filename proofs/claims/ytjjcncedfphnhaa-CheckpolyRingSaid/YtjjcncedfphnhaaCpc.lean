/- CheckpolyCompare returns true: its walk, and its law. -/
import Derived.Test.YtjjcncedfphnhaaLaw
namespace Go.Vc
open Go.Proofs

theorem cmpI_swap (x y : Int) : cmpI y x = -cmpI x y := by unfold cmpI; repeat' split; all_goals omega
theorem cmpI_val (x y : Int) : cmpI x y = -1 ∨ cmpI x y = 0 ∨ cmpI x y = 1 := by unfold cmpI; repeat' split; all_goals omega
theorem cmpI_one {x y : Int} : cmpI x y = 1 ↔ y < x := by unfold cmpI; repeat' split; all_goals omega

theorem cmpT_swap (s t : Term1) : cmpT t s = -cmpT s t := by
  unfold cmpT; rw [cmpE_swap s.2 t.2, cmpI_swap s.1 t.1]; repeat' split; all_goals omega
theorem cmpT_val (s t : Term1) : cmpT s t = -1 ∨ cmpT s t = 0 ∨ cmpT s t = 1 := by
  unfold cmpT; split
  · exact cmpE_val _ _
  · exact cmpI_val _ _
theorem cmpT_zero {s t : Term1} (hs : s.2.length = 4) (ht : t.2.length = 4) : cmpT s t = 0 ↔ s = t := by
  unfold cmpT
  have h1 := @cmpE_zero s.2 t.2 (by omega)
  constructor
  · intro h
    split at h
    · contradiction
    · rename_i hn
      have : cmpE s.2 t.2 = 0 := by omega
      exact Prod.ext (cmpI_eq_zero.1 h) (h1.1 this)
  · rintro rfl
    rw [if_neg (by have := h1.2 rfl; omega), cmpI_eq_zero]
theorem cmpT_trans1 {s t u : Term1} (hs : s.2.length = 4) (ht : t.2.length = 4) (hu : u.2.length = 4) (h1 : cmpT s t = 1) (h2 : cmpT t u = 1) : cmpT s u = 1 := by
  unfold cmpT at *
  have z1 := @cmpE_zero s.2 t.2 (by omega)
  have z2 := @cmpE_zero t.2 u.2 (by omega)
  split at h1 <;> split at h2
  · have := cmpE_trans1 (a := s.2) (b := t.2) (c := u.2) (by omega) (by omega) h1 (by omega)
    rw [if_pos (by omega), this]
  · rename_i n2
    have e : t.2 = u.2 := z2.1 (by omega)
    rw [← e, if_pos (by omega), h1]
  · rename_i n1 n2
    have e : s.2 = t.2 := z1.1 (by omega)
    rw [e, if_pos (by omega), h2]
  · rename_i n1 n2
    have e1 : s.2 = t.2 := z1.1 (by omega)
    rw [e1, if_neg n2]
    rw [cmpI_one] at *; omega
theorem cmpT_trans {s t u : Term1} {c : Int} (hs : s.2.length = 4) (ht : t.2.length = 4) (hu : u.2.length = 4) (h1 : cmpT s t = c) (h2 : cmpT t u = c) : cmpT s u = c := by
  rcases cmpT_val s t with h | h | h
  · have e1 : cmpT u t = 1 := by rw [cmpT_swap t u]; omega
    have e2 : cmpT t s = 1 := by rw [cmpT_swap s t]; omega
    have := cmpT_trans1 hu ht hs e1 e2
    rw [cmpT_swap u s]; omega
  · have e := (cmpT_zero hs ht).1 h
    rw [e]; exact h2
  · have := cmpT_trans1 hs ht hu h (by omega)
    omega


theorem cmpP_swap : ∀ (f g : Pol), cmpP g f = -cmpP f g
  | [], [] => rfl
  | [], _ :: _ => rfl
  | _ :: _, [] => rfl
  | s :: p, t :: q => by
    have := cmpP_swap p q
    simp only [cmpP]
    rw [cmpT_swap s t]
    repeat' split
    all_goals omega
theorem cmpP_zero : ∀ {f g : Pol}, L4 f → L4 g → (cmpP f g = 0 ↔ f = g)
  | [], [], _, _ => by simp [cmpP]
  | [], _ :: _, _, _ => by simp [cmpP]
  | _ :: _, [], _, _ => by simp [cmpP]
  | s :: p, t :: q, hf, hg => by
    have ih := cmpP_zero hf.tail.2 hg.tail.2
    have z := cmpT_zero hf.tail.1 hg.tail.1
    simp only [cmpP, List.cons.injEq, ← ih, ← z]
    split <;> omega
theorem cmpP_val : ∀ (f g : Pol), cmpP f g = -1 ∨ cmpP f g = 0 ∨ cmpP f g = 1
  | [], [] => by simp [cmpP]
  | [], _ :: _ => by simp [cmpP]
  | _ :: _, [] => by simp [cmpP]
  | s :: p, t :: q => by
    have ih := cmpP_val p q
    have z := cmpT_val s t
    simp only [cmpP]
    split <;> omega
theorem cmpP_trans : ∀ {f g h : Pol} {c : Int}, L4 f → L4 g → L4 h → cmpP f g = c → cmpP g h = c → cmpP f h = c
  | [], [], [], c, _, _, _, h1, _ => h1
  | [], [], _ :: _, c, _, _, _, h1, h2 => h2
  | [], _ :: _, [], c, _, _, _, h1, h2 => by simp only [cmpP] at *; omega
  | [], _ :: _, _ :: _, c, _, _, _, h1, h2 => by simp only [cmpP] at *; omega
  | _ :: _, [], [], c, _, _, _, h1, h2 => by simp only [cmpP] at *; omega
  | _ :: _, [], _ :: _, c, _, _, _, h1, h2 => by simp only [cmpP] at *; omega
  | _ :: _, _ :: _, [], c, _, _, _, h1, h2 => by simp only [cmpP] at *; omega
  | s :: p, t :: q, u :: r, c, hf, hg, hh, h1, h2 => by
    simp only [cmpP] at h1 h2 ⊢
    have lf := hf.tail
    have lg := hg.tail
    have lh := hh.tail
    split at h1 <;> split at h2
    · have := cmpT_trans lf.1 lg.1 lh.1 h1 h2
      rw [if_pos (by omega), this]
    · have e := (cmpT_zero lg.1 lh.1).1 (by omega)
      rw [← e, if_pos (by omega), h1]
    · have e := (cmpT_zero lf.1 lg.1).1 (by omega)
      rw [e, if_pos (by omega), h2]
    · have e := (cmpT_zero lf.1 lg.1).1 (by omega)
      rw [e, if_neg (by omega)]
      exact cmpP_trans lf.2 lg.2 lh.2 h1 h2

theorem norm1_le {l : Pol} (h : ∀ t ∈ l, t.1.natAbs ≤ 128) : norm1 l ≤ 128 * l.length := by
  induction l with
  | nil => simp [norm1]
  | cons t r ih =>
    have h1 := h t List.mem_cons_self
    have h2 := ih fun s hs => h s (List.mem_cons_of_mem _ hs)
    simp only [norm1, List.length_cons]; omega
theorem MonosAt.norm {h : Heap} {v : Value} {l : Pol} (hm : MonosAt h v l) {n : Nat} (hn : l.length ≤ n) (h1 : n < 1000) : norm1 l < big := by
  obtain ⟨a, cap, -, -, hm⟩ := hm
  have : norm1 l ≤ 128 * l.length := norm1_le fun t ht => by
    obtain ⟨j, hj, rfl⟩ := List.getElem_of_mem ht
    obtain ⟨b, off, -, hc⟩ := hm (by intro e; subst e; simp at hj)
    obtain ⟨⟨h1, h2, -⟩, -⟩ := hc j hj
    omega
  have : (128000 : Nat) < big := by decide
  omega

set_option maxHeartbeats 1600000 in
theorem CheckpolyCompare_any (h : Heap) (v1 v2 v3 : Value) (p q r : Pol) (hp : MonosAt h v1 p) (hq : MonosAt h v2 q) (hr : MonosAt h v3 r) :
    Spec E.P f_cylinderlaw54_CheckpolyCompare #[v1, v2, v3] h (fun v h' => Ext h h' ∧ v = .bool true) := by
  refine Spec.intro hE (args := [_, _, _]) F_cylinderlaw54_CheckpolyCompare rfl rfl (Nat.le_of_ble_eq_true rfl) ?_
  refine (awake_any h).mono ?_
  rintro _ h1 ⟨hx1, rfl⟩
  refine (Few_any h1 v1 p 4 2 (hp.ext hx1) (by decide)).mono ?_
  rintro _ h1 ⟨rfl, b1, rfl, hb1⟩
  have hret : ∀ h1, Ext h h1 → Spec E.P f_cylinderlaw54_awake #[] h1 (fun v h' => Ext h h' ∧ v = .bool true) := fun h1 hx => (awake_any h1).mono fun v h2 hh => ⟨hx.trans hh.1, hh.2⟩
  cases b1
  · refine (hret h1 hx1).mono ?_
    rintro _ h2 hh
    exact hh
  refine (Few_any h1 v2 q 4 2 (hq.ext hx1) (by decide)).mono ?_
  rintro _ h1 ⟨rfl, b2, rfl, hb2⟩
  cases b2
  · refine (hret h1 hx1).mono ?_
    rintro _ h2 hh
    exact hh
  refine (Few_any h1 v3 r 4 2 (hr.ext hx1) (by decide)).mono ?_
  rintro _ h1 ⟨rfl, b3, rfl, hb3⟩
  cases b3
  · refine (hret h1 hx1).mono ?_
    rintro _ h2 hh
    exact hh
  have hlp := (hb1 rfl).1
  have hlq := (hb2 rfl).1
  have hlr := (hb3 rfl).1
  have np := hp.norm hlp (by decide)
  have nq := hq.norm hlq (by decide)
  have nr := hr.norm hlr (by decide)
  -- the three polynomials
  refine (Poly_any h1 v1 p (hp.ext hx1) (by omega)).mono ?_
  rintro w1 h2 ⟨hx2, hw1⟩
  refine (Normal_any h2 w1 p hw1 (by omega) np).mono ?_
  rintro f1 h3 ⟨hx3, f, hf, hcf, hef, hnf, hlf⟩
  have hx03 := hx1.trans (hx2.trans hx3)
  refine (Poly_any h3 v2 q (hq.ext hx03) (by omega)).mono ?_
  rintro w2 h4 ⟨hx4, hw2⟩
  refine (Normal_any h4 w2 q hw2 (by omega) nq).mono ?_
  rintro g1 h5 ⟨hx5, g, hg, hcg, heg, hng, hlg⟩
  have hx05 := hx03.trans (hx4.trans hx5)
  refine (Poly_any h5 v3 r (hr.ext hx05) (by omega)).mono ?_
  rintro w3 h6 ⟨hx6, hw3⟩
  refine (Normal_any h6 w3 r hw3 (by omega) nr).mono ?_
  rintro k1 h7 ⟨hx7, k, hk, hck, hek, hnk, hlk⟩
  have hx07 := hx05.trans (hx6.trans hx7)
  have hf7 := hf.ext (hx4.trans (hx5.trans (hx6.trans hx7)))
  have hg7 := hg.ext (hx6.trans hx7)
  refine (Compare_any h7 f1 g1 f g f g hf7 hg7 (by omega) (by omega) (by omega) (by omega) hcf hcg (fun _ => rfl) (fun _ => rfl)).mono ?_
  rintro _ h8 ⟨hx8, rfl⟩
  refine (Compare_any h8 g1 k1 g k g k (hg7.ext hx8) (hk.ext hx8) (by omega) (by omega) (by omega) (by omega) hcg hck (fun _ => rfl) (fun _ => rfl)).mono ?_
  rintro _ h9 ⟨hx9, rfl⟩
  have hx79 := hx8.trans hx9
  refine (Compare_any h9 f1 k1 f k f k (hf7.ext hx79) (hk.ext hx79) (by omega) (by omega) (by omega) (by omega) hcf hck (fun _ => rfl) (fun _ => rfl)).mono ?_
  rintro _ h10 ⟨hx10, rfl⟩
  have hx710 := hx79.trans hx10
  refine (Compare_any h10 g1 f1 g f g f (hg7.ext hx710) (hf7.ext hx710) (by omega) (by omega) (by omega) (by omega) hcg hcf (fun _ => rfl) (fun _ => rfl)).mono ?_
  rintro _ h11 ⟨hx11, rfl⟩
  have hx711 := hx710.trans hx11
  have hsw := cmpP_swap f g
  have hvl := cmpP_val f g
  refine DWrap.is (-cmpP f g) (by omega) (by omega) ?_
  refine bsp.intro (fun hbad => ?_) (fun _ => ?_)
  · exfalso; rw [hsw] at hbad; simp at hbad
  refine (equal_any h11 f1 g1 f g (hf7.ext hx711) (hg7.ext hx711) (by omega) (by omega) (by omega) (by omega)).mono ?_
  rintro _ h12 ⟨hx12, rfl⟩
  have hx712 := hx711.trans hx12
  have hz := cmpP_zero hcf.l4 hcg.l4
  refine bsp.intro (fun hbad => ?_) (fun _ => ?_)
  · exfalso
    have : decide (f = g) = (cmpP f g == 0) := by
      rw [Bool.eq_iff_iff]; simp [hz]
    rw [this] at hbad
    simp at hbad
  have hlast : ∀ h13, Ext h7 h13 → Spec E.P f_cylinderlaw54_Poly #[v1] h13 (fun v h' => Ext h h' ∧ PolyAt h' v p) := fun h13 hx13 => (Poly_any h13 v1 p (hp.ext (hx07.trans hx13)) (by omega)).mono fun v h' hh => ⟨hx07.trans (hx13.trans hh.1), hh.2⟩
  have hend : ∀ (u1 u2 : Value) (h14 h15 : Heap), PolyAt h14 u1 p → Ext h h14 → PolyAt h15 u2 q → Ext h14 h15 → Spec E.P f_checkpoly_Compare #[u1, u2] h15 (fun v h' => Ext h h' ∧ v = .int .i64 (cmpP f g)) := fun u1 u2 h14 h15 hu1 hx14 hu2 hx15 =>
    (Compare_any h15 u1 u2 p q f g (hu1.ext hx15) hu2 np nq (by omega) (by omega) hcf hcg hef heg).mono fun v h' hh => ⟨hx14.trans (hx15.trans hh.1), hh.2⟩
  have hord : Spec E.P f_cylinderlaw54_order #[f1, g1] h12 (fun v h' => Ext h12 h' ∧ v = .int .i64 (cmpP f g)) := order_any h12 f1 g1 f g (hf7.ext hx712) (hg7.ext hx712) (by omega) (by omega) (by omega) (by omega)
  refine bsp.intro (fun hab => ?_) (fun hab => ?_)
  · refine bsp.intro (fun hbad => ?_) (fun _ => ?_)
    · exfalso
      have e1 : cmpP f g = cmpP g k := by simpa using hab
      have := cmpP_trans hcf.l4 hcg.l4 hck.l4 rfl e1.symm
      rw [this] at hbad
      simp at hbad
    refine hord.mono ?_
    rintro _ h13 ⟨hx13, rfl⟩
    refine bsp.intro (fun hbad => ?_) (fun _ => ?_)
    · exfalso; simp at hbad
    refine (hlast h13 (hx712.trans hx13)).mono ?_
    rintro u1 h14 ⟨hx14, hu1⟩
    refine (Poly_any h14 v2 q (hq.ext hx14) (by omega)).mono ?_
    rintro u2 h15 ⟨hx15, hu2⟩
    refine (hend u1 u2 h14 h15 hu1 hx14 hu2 hx15).mono ?_
    rintro _ h16 ⟨hx16, rfl⟩
    exact ⟨hx16, by simp⟩
  · refine hord.mono ?_
    rintro _ h13 ⟨hx13, rfl⟩
    refine bsp.intro (fun hbad => ?_) (fun _ => ?_)
    · exfalso; simp at hbad
    refine (hlast h13 (hx712.trans hx13)).mono ?_
    rintro u1 h14 ⟨hx14, hu1⟩
    refine (Poly_any h14 v2 q (hq.ext hx14) (by omega)).mono ?_
    rintro u2 h15 ⟨hx15, hu2⟩
    refine (hend u1 u2 h14 h15 hu1 hx14 hu2 hx15).mono ?_
    rintro _ h16 ⟨hx16, rfl⟩
    exact ⟨hx16, by simp⟩
end Go.Vc
