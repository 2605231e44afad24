/- Contracts of the sort of terms. -/
import Derived.Test.YtjjcncedfphnhaaPol
namespace Go.Vc
open Go.Proofs

theorem CellsAt.sub {h : Heap} {b off : Nat} {cs : List Value} (hc : CellsAt h b off cs) (k m : Nat) : CellsAt h b (off + k) ((cs.drop k).take m) := CellsAt.mk fun j v hj => by
  rw [List.getElem?_take] at hj
  split at hj
  · rw [List.getElem?_drop] at hj
    have := hc.get _ _ hj
    rwa [← Nat.add_assoc] at this
  · cases hj

theorem TermAt.exps {h h' : Heap} {b off : Nat} {cs : List Value} {t : Term1} (ht : TermAt h' cs t) (hc : CellsAt h b off cs) : CellsAt h b (off + 2) (expV t.2) := by
  have := hc.sub 2 4
  obtain ⟨hl, c1, c2, rfl, -⟩ := ht
  rw [show ((c1 :: c2 :: expV t.2).drop 2).take 4 = expV t.2 from List.take_of_length_le (by simp [expV, hl])] at this
  exact this
theorem TermAt.coef {h h' : Heap} {b off : Nat} {cs : List Value} {t : Term1} (ht : TermAt h' cs t) (hc : CellsAt h b off cs) : ∃ v, CellsAt h b off v ∧ v.length = 2 ∧ IntAt h' (.agg v.toArray) t.1 := by
  have := hc.sub 0 2
  obtain ⟨hl, c1, c2, rfl, hi⟩ := ht
  exact ⟨[c1, c2], this, rfl, hi⟩

theorem expV_len {e : List Nat} : (expV e).length = e.length := by simp [expV]

theorem descending_any (h : Heap) (cs1 cs2 : List Value) (t1 t2 : Term1) (h1 : TermAt h cs1 t1) (h2 : TermAt h cs2 t2) :
    Spec E.P f_checkpoly_Normal_1 #[.agg cs1.toArray, .agg cs2.toArray] h (fun v h' => Ext h h' ∧ v = .int .i64 (cmpE t2.2 t1.2)) := by
  refine Spec.intro hE (args := [_, _]) F_checkpoly_Normal_1 rfl rfl (Nat.le_of_ble_eq_true rfl) ?_
  refine DNew.intro ?_
  intro b1 h1' hb1 hx1 hs1 hg1
  refine DNew.intro ?_
  intro b2 h2' hb2 hx2 hs2 hg2
  have w1 : Whole h2' b1 t_checkpoly_Term cs1 := hx2.at hg1
  have w2 : Whole h2' b2 t_checkpoly_Term cs2 := hg2
  refine DLoad.agg (expV t2.2) (by rw [expV_len]; exact h2.1) (h2.exps w2.cellsAt) ?_
  refine DLoad.agg (expV t1.2) (by rw [expV_len]; exact h1.1) (h1.exps w1.cellsAt) ?_
  refine (compareExp_any h2' _ _ h2.1 h1.1).mono ?_
  rintro _ h3 ⟨hx3, rfl⟩
  exact ⟨hx1.trans (hx2.trans hx3), rfl⟩

/-- the least of four exponents is no negative number -/
theorem Min_any (h : Heap) (b off cap : Nat) (e : List Nat) (hl : e.length = 4) (hc : CellsAt h b off (expV e)) :
    Spec E.P f_slices_Min #[.slice (some ⟨b, off, none⟩) 4 cap] h (fun v h' => h' = h ∧ ∃ m : Nat, v = .int .i64 m) := by
  have hcell : ∀ j (hj : j < e.length), cell h b (off + j) = some (.int .i64 (e[j] : Int)) := fun j hj => hc.get j _ (expV_get hj)
  refine Spec.intro hE (args := [_]) F_slices_Min rfl rfl (Nat.le_of_ble_eq_true rfl) ?_
  refine DJoin.split hE rfl ?_
  refine DIdx.intro 0 rfl rfl (by decide) ?_
  refine DLoad.scalar (hcell 0 (by omega)) ?_
  refine DLoop.intro hE (ι := Nat × Nat) (fun q => [(4, .int .i64 q.1), (3, .int .i64 q.2), (0, .slice (some ⟨b, off, none⟩) 4 cap)]) (fun q h' => h' = h ∧ q.1 ≤ 4) (fun q => 4 - q.1) (1, e[0]'(by omega)) rfl ⟨rfl, rfl, rfl, trivial⟩ ⟨rfl, by dsimp only; omega⟩ ?_
  rintro ⟨k, m⟩ h' ⟨rfl, hk⟩
  dsimp only at hk ⊢
  refine bsp.dec (fun hlt => ?_) (fun hlt => ?_)
  · refine DIdx.intro k rfl rfl (by omega) ?_
    refine DLoad.scalar (hcell k (by omega)) ?_
    refine DWrap.is ((k + 1 : Nat) : Int) (by omega) (by omega) ?_
    have hm : ∃ m' : Nat, (if ((e[k]'(by omega) : Nat) : Int) < (m : Int) then ((e[k]'(by omega) : Nat) : Int) else (m : Int)) = (m' : Int) := by split <;> exact ⟨_, rfl⟩
    obtain ⟨m', hm'⟩ := hm
    refine ⟨(k + 1, m'), ⟨rfl, by dsimp only; rw [← hm']; rfl, rfl, trivial⟩, ⟨rfl, by dsimp only; omega⟩, by dsimp only; omega⟩
  · exact ⟨rfl, m, rfl⟩

/-- in order: no later exponent is the greater one -/
def Desc (p : Pol) : Prop := ∀ i (hi : i + 1 < p.length), 0 ≤ cmpE p[i].2 p[i + 1].2

theorem PolyA.at {h : Heap} {a : Option Addr} {p : Pol} (hp : PolyA h a p) (hne : p ≠ []) : ∃ b off, a = some ⟨b, off, none⟩ ∧ ∀ j (hj : j < p.length), ∃ cs, TermAt h cs p[j] ∧ CellsAt h b (off + j * 6) cs := hp hne

theorem IsSorted_any (h : Heap) (v : Value) (p : Pol) (hp : PolyAt h v p) (hlen : p.length < 1000000000) :
    Spec E.P f_slices_IsSortedFunc #[v, .func (.func f_checkpoly_Normal_1) #[] #[]] h (fun v h' => Ext h h' ∧ ∃ b, v = .bool b ∧ (b = true ↔ Desc p)) := by
  obtain ⟨a, cap, rfl, hcap, hp⟩ := hp
  refine Spec.intro hE (args := [_, _]) F_slices_IsSortedFunc rfl rfl (Nat.le_of_ble_eq_true rfl) ?_
  refine DWrap.is ((p.length : Int) - 1) rfl (by omega) ?_
  refine DLoop.intro hE (ι := Int) (fun k => [(5, .int .i64 k), (0, .slice a p.length cap), (1, .func (.func f_checkpoly_Normal_1) #[] #[])])
    (fun k h' => Ext h h' ∧ -1 ≤ k ∧ k < p.length ∧ ∀ i (hi : i + 1 < p.length), k ≤ i → 0 ≤ cmpE p[i].2 p[i + 1].2) (fun k => k.toNat) ((p.length : Int) - 1) rfl ⟨rfl, rfl, rfl, trivial⟩ ⟨Ext.rfl, by omega, by omega, fun i hi hk => by omega⟩ ?_
  rintro k h' ⟨hx, hk1, hk2, hd⟩
  refine bsp.dec (fun hlt => ?_) (fun hlt => ?_)
  · obtain ⟨m, rfl⟩ : ∃ m : Nat, k = m + 1 := ⟨(k - 1).toNat, by omega⟩
    obtain ⟨b, off, rfl, hc⟩ := hp (by intro e; subst e; simp at hk2; omega)
    obtain ⟨cs1, ht1, hc1⟩ := hc (m + 1) (by omega)
    obtain ⟨cs2, ht2, hc2⟩ := hc m (by omega)
    refine DDraw.intro hE (.take 0 (.take 1 (.take 2 (.take 3 (.take 5 (.take 6 (.take 7 (.take 8 (.take 4 (.take 9 (.one 10 (.take 11 .done)))))))))))) none (Ext h ·) (by kernel_rfl) hx ?_
    refine DIdx.intro (m + 1) rfl (by omega) (by omega) ?_
    refine DWrap.is (m : Int) (by omega) (by omega) ?_
    refine DIdx.intro m rfl rfl (by omega) ?_
    refine QLoad.agg cs1 ht1.len (fun _ e => hc1.ext e) ?_
    refine QLoad.agg cs2 ht2.len (fun _ e => hc2.ext e) ?_
    refine (descending_any h' cs1 cs2 _ _ (ht1.ext hx) (ht2.ext hx)).mono ?_
    rintro _ h3 ⟨hx3, rfl⟩
    refine ⟨hx.trans hx3, ?_⟩
    refine bsp.dec (fun hl => ?_) (fun hl => ?_)
    · refine ⟨hx.trans hx3, false, rfl, fun e => (by cases e), fun hD => ?_⟩
      have := hD m (by omega)
      exfalso; omega
    · refine DWrap.is (m : Int) (by omega) (by omega) ?_
      refine ⟨(m : Int), ⟨rfl, rfl, rfl, trivial⟩, ⟨hx.trans hx3, by omega, by omega, fun i hi hmi => ?_⟩, by omega⟩
      by_cases e : i = m
      · subst e; omega
      · exact hd i hi (by omega)
  · exact ⟨hx, true, rfl, fun _ i hi => hd i hi (by omega), fun _ => rfl⟩
end Go.Vc
