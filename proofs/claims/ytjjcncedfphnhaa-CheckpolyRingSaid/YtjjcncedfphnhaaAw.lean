/- Variables, degrees, and what an empty implementation does not satisfy. -/
import Derived.Test.YtjjcncedfphnhaaTim
namespace Go.Vc
open Go.Proofs

def unitE (k : Nat) : List Nat := [0, 0, 0, 0].set k 1

theorem Var_any (h : Heap) (k : Nat) (hk : k < 4) : Spec E.P f_checkpoly_Var #[.int .i64 ((k : Int) + 1)] h (fun v h' => Ext h h' ∧ PolyAt h' v [(1, unitE k)]) := by
  refine Spec.intro hE (args := [_]) F_checkpoly_Var rfl rfl (Nat.le_of_ble_eq_true rfl) ?_
  refine bsp.dec (p := (k : Int) + 1 > 4) (fun hc2 => ?_) (fun hc2 => ?_)
  · exfalso; omega
  refine (integer_Of_any h 1 (by omega)).mono ?_
  rintro v1 h1 ⟨hx1, hi1⟩
  have hi0 := hi1
  obtain ⟨a, cap, rfl, -⟩ := hi1
  refine DPure.build [.bool (decide ((1 : Int) < 0)), .slice a (digs (Int.natAbs 1)).length cap, .int .i64 (0 : Nat), .int .i64 (0 : Nat), .int .i64 (0 : Nat), .int .i64 (0 : Nat)] (by kernel_rfl) ?_
  refine DNew.intro ?_
  intro b h2 hb hx2 hs2 hg2
  refine DStore.full hg2 rfl rfl rfl rfl ?_
  intro h3 hu3
  have hw3 : Whole h3 b t_checkpoly_Term (.bool (decide ((1 : Int) < 0)) :: .slice a (digs (Int.natAbs 1)).length cap :: expV [0, 0, 0, 0]) := hu3.at_
  have hx3 : Ext h1 h3 := ((Old.rfl (B := h1.size).ext hx2 (Nat.le_refl _)).upd hu3 (by omega)).toExt
  refine DWrap.is (k : Int) (by omega) (by omega) ?_
  refine DIdx.intro k rfl rfl hk ?_
  refine DStore.part (vs := [.int .i64 ((1 : Nat) : Int)]) (.bool (decide ((1 : Int) < 0)) :: .slice a (digs (Int.natAbs 1)).length cap :: expV (unitE k)) hw3 rfl rfl (by simp [expV]; omega) rfl ?_ ?_
  · rw [Nat.zero_add, splice_exp (by simpa using hk)]; rfl
  intro h4 hu4 hw4
  have hx4 : Ext h1 h4 := ((Old.rfl (B := h1.size).ext hx2 (Nat.le_refl _)).upd hu3 (by omega)).upd hu4 (by omega) |>.toExt
  have ht4 : TermAt h4 (.bool (decide ((1 : Int) < 0)) :: .slice a (digs (Int.natAbs 1)).length cap :: expV (unitE k)) (1, unitE k) := ⟨by simp [unitE], _, _, rfl, hi0.ext hx4⟩
  refine DLoad.agg _ ht4.len hw4.cellsAt ?_
  have hw : ∃ cs : List Value, (.bool (decide ((1 : Int) < 0)) :: .slice a (digs (Int.natAbs 1)).length cap :: expV (unitE k)) = cs := ⟨_, rfl⟩
  obtain ⟨cs, hcs⟩ := hw
  rw [hcs] at ht4 ⊢
  have ht40 := ht4
  obtain ⟨aa, cc, e0, e1, e2, e3, he, rfl, -⟩ := ht4.form
  refine ⟨⟨rfl, by decide, rfl, rfl, trivial⟩, ?_⟩
  refine DNew.intro ?_
  intro nb h5 hnb hx5 hs5 hg5
  refine ⟨hx1.trans (hx4.trans hx5), some ⟨nb, 0, none⟩, 1, rfl, ⟨Nat.le_refl _, fun e => (by cases e), fun b off s e _ => by cases e; exact ⟨_, _, hg5⟩⟩, fun _ => ⟨nb, 0, rfl, fun j hj => ?_⟩⟩
  obtain rfl : j = 0 := by simpa using hj
  exact ⟨_, ht40.ext hx5, Whole.cellsAt (e := t_checkpoly_Term) hg5⟩

/-- the degree in the variable number k + 1 of a polynomial that is not 0 -/
def degP : Pol → Nat → Nat
  | [], _ => 0
  | t :: r, k => max (t.2.getD k 0) (degP r k)

theorem degP_append (p q : Pol) (k : Nat) : degP (p ++ q) k = max (degP p k) (degP q k) := by
  induction p with
  | nil => simp [degP]
  | cons t r ih => simp only [List.cons_append, degP, ih]; omega

theorem degree_any (h : Heap) (v : Value) (f : Pol) (k : Nat) (hk : k < 4) (hf : PolyAt h v f) (hlen : f.length < 1000000000) :
    Spec E.P f_checkpoly_degree #[v, .int .i64 ((k : Int) + 1)] h (fun v' h' => Ext h h' ∧ v' = .int .i64 (if f = [] then -1 else (degP f k : Int))) := by
  obtain ⟨a, cap, rfl, hcap, hf⟩ := hf
  refine Spec.intro hE (args := [_, _]) F_checkpoly_degree rfl rfl (Nat.le_of_ble_eq_true rfl) ?_
  refine bsp.dec (p := (f.length : Int) = 0) (fun hz => ?_) (fun hz => ?_)
  · have : f = [] := List.eq_nil_of_length_eq_zero (by omega)
    exact ⟨Ext.rfl, by rw [if_pos this]⟩
  have hne : f ≠ [] := fun e => hz (by rw [e]; rfl)
  refine bsp.dec (p := (k : Int) + 1 > 4) (fun hc2 => ?_) (fun hc2 => ?_)
  · exfalso; omega
  refine DLoop.intro hE (ι := Nat) (fun i => [(19, .int .i64 i), (17, .slice a f.length cap), (18, .int .i64 f.length), (5, .int .i64 (degP (f.take i) k : Nat)), (1, .int .i64 ((k : Int) + 1))])
    (fun i h' => Ext h h' ∧ i ≤ f.length) (fun i => f.length - i) 0 rfl ⟨rfl, rfl, rfl, rfl, rfl, trivial⟩ ⟨Ext.rfl, Nat.zero_le _⟩ ?_
  rintro i h1 ⟨hx1, hi⟩
  refine bsp.dec (fun hlt => ?_) (fun hlt => ?_)
  · have hif : i < f.length := by omega
    obtain ⟨b, off, rfl, hc⟩ := hf hne
    obtain ⟨cs, ht, hcs⟩ := hc i hif
    refine DIdx.intro i rfl rfl hif ?_
    refine DLoad.agg cs ht.len (hcs.ext hx1) ?_
    refine DNew.intro ?_
    intro tb h2 htb hx2 hs2 hg2
    refine DStore.full hg2 rfl ht.len rfl ht.ones ?_
    intro h3 hu3
    have hw3 : Whole h3 tb t_checkpoly_Term cs := hu3.at_
    have hx3 : Ext h1 h3 := ((Old.rfl (B := h1.size).ext hx2 (Nat.le_refl _)).upd hu3 (by omega)).toExt
    have ht3 := ht.ext (hx1.trans hx3)
    have hl4 := ht.1
    refine DWrap.is (k : Int) (by omega) (by omega) ?_
    refine DIdx.intro k rfl rfl hk ?_
    refine DLoad.scalar ((ht3.exps hw3.cellsAt).get k _ (expV_get (by omega))) ?_
    refine DWrap.is ((i + 1 : Nat) : Int) (by omega) (by omega) ?_
    refine ⟨i + 1, ⟨rfl, rfl, rfl, ?_, rfl, trivial⟩, ⟨hx1.trans hx3, by omega⟩, by omega⟩
    have e : degP (f.take (i + 1)) k = max (degP (f.take i) k) (f[i].2[k]'(by omega)) := by
      rw [List.take_succ_eq_append_getElem hif, degP_append]
      simp only [degP]
      rw [List.getD_eq_getElem?_getD, List.getElem?_eq_getElem (by omega)]
      simp
    rw [e]
    show some (Value.int .i64 (if ((f[i].2[k]'(by omega) : Nat) : Int) > (degP (f.take i) k : Int) then ((f[i].2[k]'(by omega) : Nat) : Int) else (degP (f.take i) k : Int))) = _
    congr 2
    split <;> omega
  · obtain rfl : i = f.length := by omega
    refine ⟨hx1, ?_⟩
    rw [List.take_length, if_neg hne]

theorem mul_one (h : Heap) (v1 v2 : Value) (s t : Term1) (hf : PolyAt h v1 [s]) (hg : PolyAt h v2 [t]) (B : Nat) (hB : B ≤ 4611686018427387903) (hs : ∀ x ∈ s.2, x ≤ B) (ht : ∀ x ∈ t.2, x ≤ B) (hbs : s.1.natAbs < big) (hbt : t.1.natAbs < big) :
    Spec E.P f_checkpoly_mul #[v1, v2] h (fun v' h' => Ext h h' ∧ PolyAt h' v' [tmul t s]) := by
  obtain ⟨a, cap, rfl, hcap, hf⟩ := hf
  have hg0 := hg
  obtain ⟨b, cap2, rfl, hcap2, hg⟩ := hg
  refine Spec.intro hE (args := [_, _]) F_checkpoly_mul rfl rfl (Nat.le_of_ble_eq_true rfl) ?_
  refine DJoin.split hE rfl ?_
  obtain ⟨b1, o1, rfl, hc⟩ := hf (by simp)
  obtain ⟨cs, hts, hcs⟩ := hc 0 (by simp)
  refine DIdx.intro 0 rfl rfl (by simp) ?_
  refine DLoad.agg cs hts.len (by simpa using hcs) ?_
  refine (times_any h _ cs [t] s hg0 hts B hB (fun u hu => by rw [List.mem_singleton] at hu; subst hu; exact ht) hs (by simpa [norm1] using hbt) hbs (by simp)).mono ?_
  rintro v3 h3 ⟨hx3, hp⟩
  exact ⟨hx3, hp⟩

theorem awake_any (h : Heap) : Spec E.P f_cylinderlaw54_awake #[] h (fun v h' => Ext h h' ∧ v = .bool true) := by
  refine Spec.intro hE (args := []) F_cylinderlaw54_awake rfl rfl (Nat.le_of_ble_eq_true rfl) ?_
  refine (Var_any h 0 (by decide)).mono ?_
  rintro v1 h1 ⟨hx1, hp1⟩
  refine (Var_any h1 0 (by decide)).mono ?_
  rintro v2 h2 ⟨hx2, hp2⟩
  have hcan : Canon [(1, unitE 0)] := ⟨List.pairwise_singleton _ _, by simp, by simp [L4, unitE]⟩
  have key : Spec E.P f_checkpoly_Mul #[v1, v2] h2 (fun v h' => Ext h2 h' ∧ PolyAt h' v [(1, [2, 0, 0, 0])]) := by
    refine Spec.intro hE (args := [_, _]) F_checkpoly_Mul rfl rfl (Nat.le_of_ble_eq_true rfl) ?_
    refine (Normal_any h2 v1 _ (hp1.ext hx2) (by decide) (by decide)).mono ?_
    rintro v3 h3 ⟨hx3, q, hq, hcq, hcf, -, -⟩
    obtain rfl : q = [(1, unitE 0)] := canon_unique hcq hcan fun e _ => hcf e
    refine (Normal_any h3 v2 _ (hp2.ext hx3) (by decide) (by decide)).mono ?_
    rintro v4 h4 ⟨hx4, q, hq4, hcq4, hcf4, -, -⟩
    obtain rfl : q = [(1, unitE 0)] := canon_unique hcq4 hcan fun e _ => hcf4 e
    refine (mul_one h4 _ _ _ _ (hq.ext hx4) hq4 1 (by decide) (by simp [unitE]) (by simp [unitE]) (by decide) (by decide)).mono ?_
    rintro v5 h5 ⟨hx5, hp5⟩
    exact ⟨hx3.trans (hx4.trans hx5), hp5⟩
  refine key.mono ?_
  rintro v3 h3 ⟨hx3, hp3⟩
  have hcan3 : Canon [(1, [2, 0, 0, 0])] := ⟨List.pairwise_singleton _ _, by simp, by simp [L4]⟩
  have key : Spec E.P f_checkpoly_Degree #[v3, .int .i64 1] h3 (fun v h' => Ext h3 h' ∧ v = .int .i64 2) := by
    refine Spec.intro hE (args := [_, _]) F_checkpoly_Degree rfl rfl (Nat.le_of_ble_eq_true rfl) ?_
    refine (Normal_any h3 v3 _ hp3 (by decide) (by decide)).mono ?_
    rintro v4 h4 ⟨hx4, q, hq, hcq, hcf, -, -⟩
    obtain rfl : q = [(1, [2, 0, 0, 0])] := canon_unique hcq hcan3 fun e _ => hcf e
    refine (degree_any h4 v4 _ 0 (by decide) hq (by decide)).mono ?_
    rintro v5 h5 ⟨hx5, rfl⟩
    exact ⟨hx4.trans hx5, rfl⟩
  refine key.mono ?_
  rintro v4 h4 ⟨hx4, rfl⟩
  exact ⟨hx1.trans (hx2.trans (hx3.trans hx4)), rfl⟩
end Go.Vc
