/- Parts of polynomials: coefficients, levels, reducta. -/
import Derived.Test.YtjjcncedfphnhaaMul
import Derived.Test.YtjjcncedfphnhaaCmp
import Derived.Lib.SliceRun
namespace Go.Vc
open Go.Proofs

/-- the terms with the exponent k of the variable number v, without it -/
def coefP (f : Pol) (v k : Nat) : Pol := (f.filter fun t => decide (t.2.getD v 0 = k)).map fun t => (t.1, t.2.set v 0)

theorem coefP_append (f g : Pol) (v k : Nat) : coefP (f ++ g) v k = coefP f v k ++ coefP g v k := by unfold coefP; rw [List.filter_append, List.map_append]

theorem getD_lt {e : List Nat} {v : Nat} (h : v < e.length) : e.getD v 0 = e[v] := by rw [List.getD_eq_getElem?_getD, List.getElem?_eq_getElem h]; rfl

set_option maxHeartbeats 800000 in
theorem coef_any (h : Heap) (w : Value) (f : Pol) (v : Nat) (k : Int) (hv : v < 4) (hk : 0 ≤ k) (hf : PolyAt h w f) (hlen : f.length < 10000000) :
    Spec E.P f_checkpoly_coef #[w, .int .i64 ((v : Int) + 1), .int .i64 k] h (fun v' h' => Ext h h' ∧ PolyAt h' v' (coefP f v k.toNat)) := by
  obtain ⟨a, cap, rfl, hcap, hfA⟩ := hf
  refine Spec.intro hE (args := [_, _, _]) F_checkpoly_coef rfl rfl (Nat.le_of_ble_eq_true rfl) ?_
  refine DLoop.intro hE (ι := Nat × Value) (fun s => [(12, .int .i64 s.1), (10, .slice a f.length cap), (11, .int .i64 f.length), (7, s.2), (1, .int .i64 ((v : Int) + 1)), (2, .int .i64 k)])
    (fun s h' => Ext h h' ∧ s.1 ≤ f.length ∧ OwnP h' h.size s.2 (coefP (f.take s.1) v k.toNat)) (fun s => f.length - s.1) (0, .slice none 0 0) rfl ⟨rfl, rfl, rfl, rfl, rfl, rfl, trivial⟩ ⟨Ext.rfl, Nat.zero_le _, OwnP.nil _ _⟩ ?_
  rintro ⟨i, lv⟩ h1 ⟨hx1, hi, ho⟩
  dsimp only at hi ho ⊢
  refine bsp.dec (fun hlt => ?_) (fun hlt => ?_)
  · have hif : i < f.length := by omega
    obtain ⟨b, off, cs, cv, rfl, ht, hcs, hcv, hlv, hiv, hce, he4⟩ := hfA.form hif
    have hvl : v < f[i].2.length := by omega
    refine DIdx.intro i rfl rfl hif ?_
    refine DLoad.agg cs ht.len (hcs.ext hx1) ?_
    refine DNew.intro ?_
    intro tb h2 htb hx2 hs2 hg2
    refine DStore.full hg2 rfl ht.len rfl ht.ones ?_
    intro h3 hu3
    have hw3 : Whole h3 tb t_checkpoly_Term cs := hu3.at_
    have hx13 : Ext h1 h3 := ((Old.rfl (B := h1.size).ext hx2 (Nat.le_refl _)).upd hu3 (by omega)).toExt
    have hx3 := hx1.trans hx13
    have ht3 := ht.ext hx3
    refine DWrap.is (v : Int) (by omega) (by omega) ?_
    refine DIdx.intro v rfl rfl hv ?_
    refine DLoad.scalar ((ht3.exps hw3.cellsAt).get v _ (expV_get hvl)) ?_
    have hcp : coefP (f.take (i + 1)) v k.toNat = coefP (f.take i) v k.toNat ++ (if f[i].2[v] = k.toNat then [(f[i].1, f[i].2.set v 0)] else []) := by
      rw [List.take_succ_eq_append_getElem hif, coefP_append]
      congr 1
      unfold coefP
      rw [← getD_lt hvl]
      by_cases hc : f[i].2.getD v 0 = k.toNat
      · rw [List.filter_cons_of_pos (by simpa using hc), if_pos hc]; rfl
      · rw [List.filter_cons_of_neg (by simpa using hc), if_neg hc]; rfl
    refine bsp.dec (p := (f[i].2[v] : Int) = k) (fun hc => ?_) (fun hc => ?_)
    · obtain ⟨hl4, c1, c2, rfl, hic⟩ := ht3
      refine DWrap.is (v : Int) (by omega) (by omega) ?_
      refine DIdx.intro v rfl rfl hv ?_
      refine DStore.part (vs := [.int .i64 ((0 : Nat) : Int)]) (c1 :: c2 :: expV (f[i].2.set v 0)) hw3 rfl rfl (by simp [expV_len]; omega) rfl ?_ ?_
      · rw [Nat.zero_add, splice_exp hvl]
      intro h4 hu4 hw4
      have hv4 : U32 h3 h4 := hu4.u32 hw3 (by decide)
      have hx14 : Ext h1 h4 := (((Old.rfl (B := h1.size).ext hx2 (Nat.le_refl _)).upd hu3 (by omega)).upd hu4 (by omega)).toExt
      have ht4 : TermAt h4 (c1 :: c2 :: expV (f[i].2.set v 0)) (f[i].1, f[i].2.set v 0) := ⟨by simpa using hl4, _, _, rfl, hic.u32 hv4⟩
      generalize he8 : (c1 :: c2 :: expV (f[i].2.set v 0) : List Value) = c8 at *
      refine DLoad.agg c8 ht4.len hw4.cellsAt ?_
      have ht40 := ht4
      obtain ⟨aa, cc, e0, e1, e2, e3, he, rfl, -⟩ := ht4.form
      refine ⟨⟨rfl, by decide, rfl, rfl, trivial⟩, ?_⟩
      refine DNew.intro ?_
      intro nb h5 hnb hx5 hs5 hg5
      have hx15 := hx14.trans hx5
      have hx05 := hx1.trans hx15
      have hll : (coefP (f.take i) v k.toNat).length ≤ i := by
        unfold coefP
        have := List.length_filter_le (fun t : Term1 => decide (t.2.getD v 0 = k.toNat)) (f.take i)
        rw [List.length_take] at this
        simp only [List.length_map]; omega
      refine DRun.term (ti := ⟨.slice t_checkpoly_Term, 1, 24, .slice none 0 0⟩) rfl rfl (ho.ext hx15) hg5 (ht40.ext hx5) (by omega) hx05.size ?_
      intro v6 h6 ho6 hgr6 hu6
      refine DWrap.is ((i + 1 : Nat) : Int) (by omega) (by omega) ?_
      refine ⟨(i + 1, v6), ⟨rfl, rfl, rfl, rfl, rfl, rfl, trivial⟩, ⟨?_, by dsimp only; omega, ?_⟩, by dsimp only; omega⟩
      · exact ((Old.rfl (B := h.size).ext hx05 (Nat.le_refl _)).grown hgr6 (Nat.le_refl _) fun k hk => (ho.block hk).1).toExt
      · dsimp only
        rw [hcp, if_pos (by omega)]; exact ho6
    · refine DWrap.is ((i + 1 : Nat) : Int) (by omega) (by omega) ?_
      refine ⟨(i + 1, lv), ⟨rfl, rfl, rfl, rfl, rfl, rfl, trivial⟩, ⟨hx3, by dsimp only; omega, ?_⟩, by dsimp only; omega⟩
      dsimp only
      rw [hcp, if_neg (by omega), List.append_nil]; exact ho.ext hx13
  · obtain rfl : i = f.length := by omega
    rw [List.take_length] at ho
    exact ⟨hx1, ho.poly⟩

/-- the highest variable with a positive exponent, counted from 1; 0 if there is none -/
def topE (e : List Nat) : Nat → Nat
  | 0 => 0
  | k + 1 => if 0 < e.getD k 0 then k + 1 else topE e k
def levelP : Pol → Nat
  | [] => 0
  | t :: _ => topE t.2 4

theorem level_any (h : Heap) (w : Value) (f : Pol) (hf : PolyAt h w f) : Spec E.P f_checkpoly_level #[w] h (fun v' h' => h' = h ∧ v' = .int .i64 (levelP f : Nat)) := by
  obtain ⟨a, cap, rfl, hcap, hfA⟩ := hf
  refine Spec.intro hE (args := [_]) F_checkpoly_level rfl rfl (Nat.le_of_ble_eq_true rfl) ?_
  cases f with
  | nil => exact ⟨rfl, rfl⟩
  | cons t r =>
    obtain ⟨b, off, cs, cv, rfl, ht, hcs, hcv, hlv, hiv, hce, he4⟩ := hfA.form (i := 0) (by simp)
    simp only [List.getElem_cons_zero, Nat.zero_mul, Nat.add_zero] at ht hcs hce he4
    refine DLoop.intro hE (ι := Nat) (fun k => [(3, .int .i64 ((k : Int) - 1)), (0, .slice (some ⟨b, off, none⟩) (t :: r).length cap)]) (fun k h' => h' = h ∧ k ≤ 4 ∧ topE t.2 4 = topE t.2 k) (fun k => k) 4 rfl ⟨rfl, rfl, trivial⟩ ⟨rfl, Nat.le_refl _, rfl⟩ ?_
    rintro k h' ⟨rfl, hk, he⟩
    refine bsp.dec (fun hc => ?_) (fun hc => ?_)
    · obtain ⟨m, rfl⟩ : ∃ m, k = m + 1 := ⟨k - 1, by omega⟩
      have hml : m < t.2.length := by omega
      refine DIdx.intro 0 rfl rfl (by simp) ?_
      refine DIdx.intro m rfl (by omega) (by omega) ?_
      refine DLoad.scalar (hce.get m _ (expV_get hml)) ?_
      have he' : topE t.2 (m + 1) = if 0 < t.2[m] then m + 1 else topE t.2 m := by
        show (if 0 < t.2.getD m 0 then m + 1 else topE t.2 m) = _
        rw [getD_lt hml]
      rw [he'] at he
      refine bsp.dec (p := (t.2[m] : Int) > 0) (fun hp => ?_) (fun hp => ?_)
      · refine DWrap.is ((m + 1 : Nat) : Int) (by omega) (by omega) ?_
        refine ⟨rfl, ?_⟩
        show _ = Value.int .i64 (topE t.2 4 : Nat)
        rw [he, if_pos (by omega)]
      · refine DWrap.is ((m : Int) - 1) (by omega) (by omega) ?_
        refine ⟨m, ⟨rfl, rfl, trivial⟩, ⟨rfl, by omega, ?_⟩, by omega⟩
        rw [he, if_neg (by omega)]
    · obtain rfl : k = 0 := by omega
      refine ⟨rfl, ?_⟩
      show _ = Value.int .i64 (topE t.2 4 : Nat)
      rw [he]; rfl

theorem isConst_any (h : Heap) (w : Value) (f : Pol) (hf : PolyAt h w f) : Spec E.P f_checkpoly_isConst #[w] h (fun v' h' => h' = h ∧ v' = .bool (decide (levelP f = 0))) := by
  refine Spec.intro hE (args := [_]) F_checkpoly_isConst rfl rfl (Nat.le_of_ble_eq_true rfl) ?_
  refine (level_any h w f hf).mono ?_
  rintro _ h1 ⟨rfl, rfl⟩
  refine ⟨rfl, ?_⟩
  show Value.bool _ = Value.bool _
  congr 1
  rw [Bool.eq_iff_iff]; simp only [beq_iff_eq, decide_eq_true_eq]; omega
end Go.Vc
