/- A polynomial times a term. -/
import Derived.Test.YtjjcncedfphnhaaNorm
namespace Go.Vc
open Go.Proofs

abbrev addE (a b : List Nat) : List Nat := List.zipWith (· + ·) a b
def tmul (s t : Term1) : Term1 := (s.1 * t.1, addE s.2 t.2)
/-- the exponents where the first k have been added -/
def midE (a b : List Nat) (k : Nat) : List Nat := (addE a b).take k ++ a.drop k

theorem midE_len {a b : List Nat} (ha : a.length = 4) (hb : b.length = 4) {k : Nat} (hk : k ≤ 4) : (midE a b k).length = 4 := by
  simp [midE, ha, hb]; omega
theorem midE_get {a b : List Nat} (ha : a.length = 4) (hb : b.length = 4) {k : Nat} (hk : k < 4) : (midE a b k)[k]'(by rw [midE_len ha hb (by omega)]; exact hk) = a[k]'(by omega) := by
  unfold midE
  rw [List.getElem_append_right (by simp; omega)]
  simp [ha, hb, show min k 4 = k by omega]
theorem midE_set {a b : List Nat} (ha : a.length = 4) (hb : b.length = 4) {k : Nat} (hk : k < 4) : (midE a b k).set k (a[k]'(by omega) + b[k]'(by omega)) = midE a b (k + 1) := by
  obtain ⟨a0, a1, a2, a3, rfl⟩ := four ha
  obtain ⟨b0, b1, b2, b3, rfl⟩ := four hb
  match k, hk with
  | 0, _ => rfl
  | 1, _ => rfl
  | 2, _ => rfl
  | 3, _ => rfl
theorem midE_end {a b : List Nat} (ha : a.length = 4) (hb : b.length = 4) : midE a b 4 = addE a b := by
  obtain ⟨a0, a1, a2, a3, rfl⟩ := four ha
  obtain ⟨b0, b1, b2, b3, rfl⟩ := four hb
  rfl

theorem splice_exp {c1 c2 : Value} {x : List Nat} {k v : Nat} (hk : k < x.length) : splice (c1 :: c2 :: expV x) (2 + k) [.int .i64 (v : Nat)] = c1 :: c2 :: expV (x.set k v) := by
  unfold splice expV
  rw [List.set_eq_take_append_cons_drop, if_pos hk, Nat.add_comm 2 k]
  simp

theorem index_run (e : List Nat) (k : Nat) (he : e.length = 4) (hk : k < 4) {K : Value → Prop} (hK : K (.int .i64 (e[k]'(by omega) : Nat))) : DPure E (Instr.index t_ar4_int (.agg (expV e).toArray) (.int .i64 k)) K := by
  refine DPure.intro _ (fun w => ?_) hK
  have hu : E.P.underlying t_ar4_int = some (.array 4 t_int) := by kernel_rfl
  have hi : E.P.underlying t_int = some (.int .i64) := by kernel_rfl
  have hs : (sizeOf t_int).run E.P w = .ok 1 w := (hE.tab t_int _ rfl).size w
  unfold Instr.index
  have hp := part_int hi (xs := (expV e).toArray) (off := k) (v := .int .i64 (e[k]'(by omega) : Nat)) (by simp [expV, he, hk]) w
  simp [asIntOf, run_underlying hu, hs, hp, hk]

/-- no exponent is greater than B -/
def ExpB (p : Pol) (B : Nat) : Prop := ∀ t ∈ p, ∀ x ∈ t.2, x ≤ B

set_option maxHeartbeats 1600000 in
theorem times_own (h : Heap) (v : Value) (bs : List Value) (f : Pol) (t : Term1) (hf : PolyAt h v f) (hby : TermAt h bs t) (B : Nat) (hB : B ≤ 4611686018427387903) (hfB : ExpB f B) (htB : ∀ x ∈ t.2, x ≤ B) (hbf : norm1 f < huge) (hbt : t.1.natAbs < huge) (hmin : norm1 f < big ∨ t.1.natAbs < big) (hlen : f.length < 10000000) :
    Spec E.P f_checkpoly_times #[v, .agg bs.toArray] h (fun v' h' => Ext h h' ∧ OwnP h' h.size v' (f.map fun s => tmul s t)) := by
  obtain ⟨a, cap, rfl, hcap, hf⟩ := hf
  refine Spec.intro hE (args := [_, _]) F_checkpoly_times rfl rfl (Nat.le_of_ble_eq_true rfl) ?_
  refine DNew.intro ?_
  intro yb h1 hyb hx1 hs1 hg1
  have hwy : Whole h1 yb t_checkpoly_Term bs := hg1
  refine DMake.intro 0 f.length rfl rfl (Nat.zero_le _) (by omega) (by omega) ?_
  intro lb h2 hlb hx2 hs2 hg2
  have ho2 : OwnP h2 h1.size (.slice (some ⟨lb, 0, none⟩) 0 f.length) [] := by
    refine ⟨[], TermsIn.nil _, ?_⟩
    have := Own.made (n := 0) (cap := f.length) (size := 6) (base := h1.size) (by omega) hg2 (Nat.zero_le _) (by omega) (by rw [List.length_flatten]; simp; rfl)
    simpa using this
  refine DLoop.intro hE (ι := Nat × Value) (fun s => [(15, .int .i64 s.1), (13, .slice a f.length cap), (14, .int .i64 f.length), (5, s.2), (3, .pointer (some ⟨yb, 0, none⟩))])
    (fun s h' => Ext h1 h' ∧ s.1 ≤ f.length ∧ OwnP h' h1.size s.2 ((f.take s.1).map fun s => tmul s t)) (fun s => f.length - s.1) (0, .slice (some ⟨lb, 0, none⟩) 0 f.length) rfl ⟨rfl, rfl, rfl, rfl, rfl, trivial⟩ ⟨hx2, Nat.zero_le _, ho2⟩ ?_
  rintro ⟨i, lv⟩ h3 ⟨hx3, hi, ho⟩
  dsimp only at hi ho ⊢
  refine bsp.dec (fun hlt => ?_) (fun hlt => ?_)
  · have hif : i < f.length := by omega
    obtain ⟨b, off, rfl, hc⟩ := hf (by intro e; subst e; simp at hif)
    obtain ⟨cs, ht, hcs⟩ := hc i hif
    refine DBlock.split hE rfl ?_
    refine DIdx.intro i rfl rfl hif ?_
    refine DLoad.agg cs ht.len (hcs.ext (hx1.trans hx3)) ?_
    refine DNew.intro ?_
    intro tb h4 htb hx4 hs4 hg4
    refine DStore.full hg4 rfl ht.len rfl ht.ones ?_
    intro h5 hu5
    have hw5 : Whole h5 tb t_checkpoly_Term cs := hu5.at_
    have hx35 : Ext h3 h5 := ((Old.rfl (B := h3.size).ext hx4 (Nat.le_refl _)).upd hu5 (by omega)).toExt
    have hx5 := hx3.trans hx35
    have hby5 := hby.ext (hx1.trans hx5)
    have hwy5 := hwy.ext hx5
    refine DLoad.agg (expV t.2) (by rw [expV_len]; exact hby.1) (hby5.exps hwy5.cellsAt) ?_
    have ht5 := ht.ext (hx1.trans hx5)
    obtain ⟨hl4, c1, c2, rfl, hic⟩ := ht5
    refine DLoop.intro hE (ι := Nat) (fun k => [(21, .int .i64 k), (20, .agg (expV t.2).toArray), (7, .pointer (some ⟨tb, 0, none⟩)), (15, .int .i64 i), (13, .slice (some ⟨b, off, none⟩) f.length cap), (14, .int .i64 f.length), (5, lv), (3, .pointer (some ⟨yb, 0, none⟩))])
      (fun k h' => Old h3.size h3 h' ∧ U32 h5 h' ∧ k ≤ 4 ∧ Whole h' tb t_checkpoly_Term (c1 :: c2 :: expV (midE f[i].2 t.2 k))) (fun k => 4 - k) 0 rfl ⟨rfl, rfl, rfl, rfl, rfl, rfl, rfl, rfl, trivial⟩ ⟨hx35.old (Nat.le_refl _), U32.rfl, Nat.zero_le _, hw5⟩ ?_
    rintro k h6 ⟨hold6, hu6, hk, hw6⟩
    refine bsp.dec (fun hlt2 => ?_) (fun hlt2 => ?_)
    · have hk4 : k < 4 := by omega
      have hml := midE_len hl4 hby.1 (k := k) (by omega)
      have hkf : k < f[i].2.length := by omega
      have hkt : k < t.2.length := by have := hby.1; omega
      have hbk1 : f[i].2[k] ≤ B := hfB _ (List.getElem_mem hif) _ (List.getElem_mem _)
      have hbk2 : t.2[k] ≤ B := htB _ (List.getElem_mem _)
      have hcell : cell h6 tb (0 + 2 + k) = some (.int .i64 (f[i].2[k] : Nat)) := by
        refine hw6.get _ ?_
        rw [Nat.zero_add, Nat.add_comm 2 k]
        simp only [List.getElem?_cons_succ]
        rw [expV_get (by omega), midE_get hl4 hby.1 hk4]
      refine index_run t.2 k hby.1 hk4 ?_
      refine DIdx.intro k rfl rfl hk4 ?_
      refine DLoad.scalar hcell ?_
      refine DWrap.is (9223372036854775807 - (t.2[k] : Int)) rfl (by omega) ?_
      refine bsp.dec (fun hbad => ?_) (fun hok => ?_)
      · exfalso; omega
      refine DIdx.intro k rfl rfl hk4 ?_
      refine DLoad.scalar hcell ?_
      refine DWrap.is ((f[i].2[k] + t.2[k] : Nat) : Int) (by omega) (by omega) ?_
      refine DIdx.intro k rfl rfl hk4 ?_
      refine DStore.part (vs := [.int .i64 ((f[i].2[k] + t.2[k] : Nat) : Int)]) (c1 :: c2 :: expV (midE f[i].2 t.2 (k + 1))) hw6 rfl rfl (by simp [expV_len, hml]; omega) rfl ?_ ?_
      · rw [Nat.zero_add, splice_exp (by omega), midE_set hl4 hby.1 hk4]
      · intro h7 hu7 hw7
        refine DWrap.is ((k + 1 : Nat) : Int) (by omega) (by omega) ?_
        exact ⟨k + 1, ⟨rfl, rfl, rfl, rfl, rfl, rfl, rfl, rfl, trivial⟩, ⟨hold6.upd hu7 (by omega), hu6.trans (hu7.u32 hw6 (by decide)), by omega, hw7⟩, by omega⟩
    · obtain rfl : k = 4 := by omega
      rw [midE_end hl4 hby.1] at hw6
      have hx6 : Ext h1 h6 := hx3.trans hold6.toExt
      have hby6 := hby.ext (hx1.trans hx6)
      have hwy6 := hwy.ext hx6
      obtain ⟨cv, hcv, hlv, hiv⟩ := hby6.coef hwy6.cellsAt
      have hi1 : (digs f[i].1.natAbs).length ≤ 256 := digs_huge (Nat.lt_of_le_of_lt (norm1_mem (List.getElem_mem hif)) hbf)
      have hi2 : (digs t.1.natAbs).length ≤ 256 := digs_huge hbt
      have him : (digs f[i].1.natAbs).length < 48 ∨ (digs t.1.natAbs).length < 48 := by
        rcases hmin with hm | hm
        · left; have := digs_bound (Nat.lt_of_le_of_lt (norm1_mem (List.getElem_mem hif)) hm); omega
        · right; have := digs_bound hm; omega
      refine DLoad.agg [c1, c2] rfl (hw6.cellsAt.sub 0 2) ?_
      refine DLoad.agg cv hlv hcv ?_
      refine (integer_Mul_min h6 _ _ _ _ (hic.u32 hu6) hiv (by omega) (by omega) him).mono ?_
      rintro v7 h7 ⟨hx7, hi7⟩
      have hi70 := hi7
      obtain ⟨a7, cap7, rfl, -⟩ := hi7
      have hw7 := hw6.ext hx7
      refine DStore.part (vs := [_, _]) (.bool (decide (f[i].1 * t.1 < 0)) :: .slice a7 (digs (f[i].1 * t.1).natAbs).length cap7 :: expV (addE f[i].2 t.2)) hw7 rfl rfl (by simp) rfl rfl ?_
      intro h8 hu8 hw8
      have hv8 : U32 h7 h8 := hu8.u32 hw7 (by decide)
      have hl4' : (addE f[i].2 t.2).length = 4 := by simp [hl4, hby.1]
      have ht8 : TermAt h8 (.bool (decide (f[i].1 * t.1 < 0)) :: .slice a7 (digs (f[i].1 * t.1).natAbs).length cap7 :: expV (addE f[i].2 t.2)) (tmul f[i] t) := ⟨hl4', _, _, rfl, hi70.u32 hv8⟩
      have hx38 : Ext h3 h8 := ((hold6.ext hx7 (Nat.le_refl _)).upd hu8 (by omega)).toExt
      generalize he8 : (.bool (decide (f[i].1 * t.1 < 0)) :: .slice a7 (digs (f[i].1 * t.1).natAbs).length cap7 :: expV (addE f[i].2 t.2) : List Value) = c8 at *
      refine DLoad.agg c8 ht8.len hw8.cellsAt ?_
      have ht80 := ht8
      obtain ⟨aa, cc, e0, e1, e2, e3, he, rfl, -⟩ := ht8.form
      refine ⟨⟨rfl, by decide, rfl, rfl, trivial⟩, ?_⟩
      refine DNew.intro ?_
      intro nb h9 hnb hx9 hs9 hg9
      have hx39 := hx38.trans hx9
      refine DRun.term (ti := ⟨.slice t_checkpoly_Term, 1, 24, .slice none 0 0⟩) rfl rfl (ho.ext hx39) hg9 (ht80.ext hx9) (by simp; omega) (Nat.le_trans hx3.size hx39.size) ?_
      intro v10 h10 ho10 hgr10 hu10
      refine DWrap.is ((i + 1 : Nat) : Int) (by omega) (by omega) ?_
      refine ⟨(i + 1, v10), ⟨rfl, rfl, rfl, rfl, rfl, trivial⟩, ⟨?_, by dsimp only; omega, ?_⟩, by dsimp only; omega⟩
      · exact ((Old.rfl (B := h1.size).ext (hx3.trans hx39) (Nat.le_refl _)).grown hgr10 (Nat.le_refl _) fun k hk => (ho.block hk).1).toExt
      · dsimp only
        rw [List.take_succ_eq_append_getElem hif, List.map_append]; exact ho10
  · obtain rfl : i = f.length := by omega
    rw [List.take_length] at ho
    exact ⟨hx1.trans hx3, ho.base (by omega)⟩
theorem times_huge (h : Heap) (v : Value) (bs : List Value) (f : Pol) (t : Term1) (hf : PolyAt h v f) (hby : TermAt h bs t) (B : Nat) (hB : B ≤ 4611686018427387903) (hfB : ExpB f B) (htB : ∀ x ∈ t.2, x ≤ B) (hbf : norm1 f < huge) (hbt : t.1.natAbs < huge) (hmin : norm1 f < big ∨ t.1.natAbs < big) (hlen : f.length < 10000000) :
    Spec E.P f_checkpoly_times #[v, .agg bs.toArray] h (fun v' h' => Ext h h' ∧ PolyAt h' v' (f.map fun s => tmul s t)) :=
  (times_own h v bs f t hf hby B hB hfB htB hbf hbt hmin hlen).mono fun _ _ h => ⟨h.1, h.2.poly⟩
theorem times_any (h : Heap) (v : Value) (bs : List Value) (f : Pol) (t : Term1) (hf : PolyAt h v f) (hby : TermAt h bs t) (B : Nat) (hB : B ≤ 4611686018427387903) (hfB : ExpB f B) (htB : ∀ x ∈ t.2, x ≤ B) (hbf : norm1 f < big) (hbt : t.1.natAbs < big) (hlen : f.length < 10000000) :
    Spec E.P f_checkpoly_times #[v, .agg bs.toArray] h (fun v' h' => Ext h h' ∧ PolyAt h' v' (f.map fun s => tmul s t)) := 
  times_huge h v bs f t hf hby B hB hfB htB (Nat.lt_trans hbf big_huge) (Nat.lt_trans hbt big_huge) (.inl hbf) hlen
end Go.Vc
