/- The sort of terms by insertion. -/
import Derived.Test.YtjjcncedfphnhaaSort
namespace Go.Vc
open Go.Proofs

theorem Grown.rfl {h : Heap} {r : Option Nat} : Grown h h r := ⟨Nat.le_refl _, fun _ _ _ => Eq.refl _⟩
theorem Grown.ext {h h' h'' : Heap} {r : Option Nat} (g : Grown h h' r) (x : Ext h' h'') : Grown h h'' r := ⟨Nat.le_trans g.size x.size, fun k hk hn => (x.get k (Nat.lt_of_lt_of_le hk g.size)).trans (g.get k hk hn)⟩
theorem Grown.upd {h h' h'' : Heap} {r : Option Nat} {b : Nat} {o : Obj} (g : Grown h h' r) (u : Upd h' b o h'') (hb : r = some b) : Grown h h'' r := ⟨by rw [u.size]; exact g.size, fun k hk hn => (u.get k (fun e => hn (by rw [hb, e]))).trans (g.get k hk hn)⟩
theorem Grown.old {h h' : Heap} {r : Option Nat} {B : Nat} (g : Grown h h' r) (hB : B ≤ h.size) (hr : ∀ k, r = some k → B ≤ k) : Old B h h' := ⟨g.size, fun k hk => g.get k (by omega) (fun e => by have := hr k e.symm; omega)⟩

abbrev ge (s t : Term1) : Prop := 0 ≤ cmpE s.2 t.2
def L4 (p : Pol) : Prop := ∀ t ∈ p, t.2.length = 4
def SortedTo (q : Pol) (i : Nat) : Prop := ∀ k l (hkl : k < l) (hl : l < i) (hq : l < q.length), ge q[k] q[l]
def SortedBut (q : Pol) (i j : Nat) : Prop := ∀ k l (hkl : k < l) (hl : l ≤ i) (hq : l < q.length), l ≠ j → ge q[k] q[l]

theorem ge_trans {a b c : Term1} (ha : a.2.length = 4) (hb : b.2.length = 4) (hc : c.2.length = 4) (h1 : ge a b) (h2 : ge b c) : ge a c := cmpE_trans (by omega) (by omega) h1 h2

theorem SortedBut.done {q : Pol} {i j : Nat} (hL : L4 q) (hs : SortedBut q i j) (hj : j < q.length) (h : ∀ m, j = m + 1 → ∀ (hm : m < q.length), ge q[m] q[j]) : SortedTo q (i + 1) := fun k l hkl hl hq => by
  by_cases e : l = j
  · subst e
    obtain ⟨m, rfl⟩ : ∃ m, l = m + 1 := ⟨l - 1, by omega⟩
    have h1 := h m rfl (by omega)
    by_cases e : k = m
    · subst e; exact h1
    · exact ge_trans (hL _ (List.getElem_mem _)) (hL _ (List.getElem_mem _)) (hL _ (List.getElem_mem _)) (hs k m (by omega) (by omega) (by omega) (by omega)) h1
  · exact hs k l hkl (by omega) hq e

theorem swap_get (q : Pol) (m : Nat) (hm : m + 1 < q.length) (k : Nat) (hk : k < q.length) : ((q.set (m + 1) q[m]).set m q[m + 1])[k]'(by simpa using hk) = if k = m then q[m + 1] else if k = m + 1 then q[m] else q[k] := by
  rw [List.getElem_set, List.getElem_set]
  by_cases e : k = m
  · rw [if_pos e.symm, if_pos e]
  · rw [if_neg (fun x => e x.symm), if_neg e]
    by_cases e : k = m + 1
    · rw [if_pos e.symm, if_pos e]
    · rw [if_neg (fun x => e x.symm), if_neg e]

theorem SortedBut.swap {q : Pol} {i m : Nat} (hs : SortedBut q i (m + 1)) (hm : m + 1 < q.length) (hmi : m + 1 ≤ i) (hlt : ¬ ge q[m] q[m + 1]) : SortedBut ((q.set (m + 1) q[m]).set m q[m + 1]) i m := fun k l hkl hl hq hne => by
  have hql : l < q.length := by simpa using hq
  have hback : ge q[m + 1] q[m] := by
    have := cmpE_swap q[m].2 q[m + 1].2
    unfold ge at hlt ⊢; omega
  rw [swap_get q m hm k (by omega), swap_get q m hm l hql, if_neg hne]
  by_cases e1 : l = m + 1
  · rw [if_pos e1]
    by_cases e2 : k = m
    · rw [if_pos e2]; exact hback
    · rw [if_neg e2, if_neg (show ¬ k = m + 1 by omega)]
      exact hs k m (by omega) (by omega) (by omega) (by omega)
  · rw [if_neg e1]
    by_cases e2 : k = m
    · rw [if_pos e2]
      exact hs (m + 1) l (by omega) hl hql e1
    · rw [if_neg e2]
      by_cases e3 : k = m + 1
      · rw [if_pos e3]; exact hs m l (by omega) hl hql e1
      · rw [if_neg e3]; exact hs k l hkl hl hql e1

theorem swap_perm (q : Pol) (m : Nat) (hm : m + 1 < q.length) : ((q.set (m + 1) q[m]).set m q[m + 1]).Perm q := List.set_set_perm (i := m + 1) (j := m) hm (by omega)
theorem L4.perm {p q : Pol} (h : q.Perm p) (hp : L4 p) : L4 q := fun t ht => hp t (h.mem_iff.1 ht)

theorem insertionSort_any (h : Heap) (base : Nat) (v : Value) (p : Pol) (hp : OwnP h base v p) (hL : L4 p) (hlen : p.length < 1000000000) (hbase : base ≤ h.size) :
    Spec E.P f_slices_insertionSortCmpFunc #[v, .int .i64 0, .int .i64 p.length, .func (.func f_checkpoly_Normal_1) #[] #[]] h (fun _ h' => Grown h h' v.ownBlock ∧ U32 h h' ∧ ∃ q : Pol, q.Perm p ∧ OwnP h' base v q ∧ SortedTo q p.length) := by
  refine Spec.intro hE (args := [_, _, _, _]) F_slices_insertionSortCmpFunc rfl rfl (Nat.le_of_ble_eq_true rfl) ?_
  refine DWrap.is 1 rfl (by omega) ?_
  by_cases hne : p = []
  · subst hne
    refine DLoop.intro hE (ι := Unit) (fun _ => [(8, .int .i64 1), (0, v), (1, .int .i64 0), (2, .int .i64 0)]) (fun _ h' => h' = h) (fun _ => 0) () rfl ⟨rfl, rfl, rfl, rfl, trivial⟩ rfl ?_
    rintro _ h' rfl
    exact ⟨Grown.rfl, U32.rfl, [], List.Perm.refl _, hp, fun k l _ hl => by simp at hl⟩
  obtain ⟨g, cap, rfl, hg1, hg2, hcap, c, hgc⟩ := hp.at hne
  refine DLoop.intro hE (ι := Nat × Pol) (fun s => [(8, .int .i64 s.1), (0, .slice (some ⟨g, 0, none⟩) p.length cap), (1, .int .i64 0), (2, .int .i64 p.length), (3, .func (.func f_checkpoly_Normal_1) #[] #[])])
    (fun s h' => Grown h h' (some g) ∧ U32 h h' ∧ s.2.Perm p ∧ OwnP h' base (.slice (some ⟨g, 0, none⟩) p.length cap) s.2 ∧ SortedTo s.2 s.1 ∧ 1 ≤ s.1) (fun s => p.length - s.1) (1, p) rfl ⟨rfl, rfl, rfl, rfl, rfl, trivial⟩
    ⟨Grown.rfl, U32.rfl, List.Perm.refl _, hp, fun k l hkl hl => by dsimp only at hl; omega, Nat.le_refl _⟩ ?_
  rintro ⟨i, q⟩ h' ⟨hgr, hu, hpm, ho, hs, hi1⟩
  dsimp only at hpm ho hs hi1 ⊢
  have hql := hpm.length_eq
  refine bsp.dec (fun hlt => ?_) (fun hlt => ?_)
  · refine DLoop.intro hE (ι := Nat × Pol) (fun s => [(9, .int .i64 s.1), (8, .int .i64 i), (0, .slice (some ⟨g, 0, none⟩) p.length cap), (1, .int .i64 0), (2, .int .i64 p.length), (3, .func (.func f_checkpoly_Normal_1) #[] #[])])
      (fun s h' => Grown h h' (some g) ∧ U32 h h' ∧ s.2.Perm p ∧ OwnP h' base (.slice (some ⟨g, 0, none⟩) p.length cap) s.2 ∧ SortedBut s.2 i s.1 ∧ s.1 ≤ i) (fun s => s.1) (i, q) rfl ⟨rfl, rfl, rfl, rfl, rfl, rfl, trivial⟩
      ⟨hgr, hu, hpm, ho, fun k l hkl hl hq hne => hs k l hkl (by omega) hq, Nat.le_refl _⟩ ?_
    clear hgr hu hpm ho hs hql
    rintro ⟨j, q⟩ h' ⟨hgr, hu, hpm, ho, hs, hji⟩
    dsimp only at hpm ho hs hji ⊢
    have hql := hpm.length_eq
    refine DDraw.intro hE (.take 0 (.take 1 (.take 2 (.take 3 (.take 4 (.take 5 (.take 6 (.take 7 (.take 9 (.take 10 (.take 11 (.take 12 (.take 8 (.take 13 (.one 14 (.take 15 (.take 16 .done))))))))))))))))) none (Ext h' ·) (by kernel_rfl) Ext.rfl ?_
    refine bsp.dec (fun hj => ?_) (fun hj => ?_)
    · obtain ⟨m, rfl⟩ : ∃ m, j = m + 1 := ⟨j - 1, by omega⟩
      have hjl : m + 1 < q.length := by omega
      have hml : m < q.length := by omega
      obtain ⟨cs1, ht1, hc1⟩ := ho.get hjl
      obtain ⟨cs2, ht2, hc2⟩ := ho.get hml
      have hq0 : q ≠ [] := by intro e; subst e; simp at hql; omega
      refine DIdx.intro (m + 1) rfl rfl (by omega) ?_
      refine DWrap.is (m : Int) (by omega) (by omega) ?_
      refine DIdx.intro m rfl rfl (by omega) ?_
      refine QLoad.agg cs1 ht1.len (fun _ e => by rw [Nat.zero_add]; exact hc1.ext e) ?_
      refine QLoad.agg cs2 ht2.len (fun _ e => by rw [Nat.zero_add]; exact hc2.ext e) ?_
      refine (descending_any h' cs1 cs2 _ _ ht1 ht2).mono ?_
      rintro _ h3 ⟨hx3, rfl⟩
      refine ⟨hx3, ?_⟩
      have hgr3 := hgr.ext hx3
      have hu3 := hu.trans hx3.u32
      have ho3 := ho.ext hx3
      refine bsp.dec (fun hl => ?_) (fun hl => ?_)
      · refine DDraw.intro hE (.take 0 (.take 1 (.take 2 (.take 3 (.take 4 (.take 5 (.take 6 (.take 7 (.take 8 (.take 10 (.take 11 (.take 12 (.take 9 (.take 13 (.take 14 (.one 15 (.take 16 (.one 17 .done)))))))))))))))))) (some 15) (· = h3) (by kernel_rfl) rfl ?_
        refine DWrap.is (m : Int) (by omega) (by omega) ?_
        refine DWrap.is (m : Int) (by omega) (by omega) ?_
        refine DIdx.intro m rfl rfl (by omega) ?_
        refine DIdx.intro (m + 1) rfl rfl (by omega) ?_
        refine QLoad.agg cs2 ht2.len (fun _ e => by subst e; rw [Nat.zero_add]; exact hc2.ext hx3) ?_
        refine QLoad.agg cs1 ht1.len (fun _ e => by subst e; rw [Nat.zero_add]; exact hc1.ext hx3) ?_
        refine DIdx.intro (m + 1) rfl rfl (by omega) ?_
        rw [← hql] at ho3
        refine DStore.ownTerm (m + 1) (Nat.zero_add _) ho3 hjl (ht2.ext hx3) rfl ?_
        intro o4 h4 hu4 hv4 ho4
        refine DIdx.intro m rfl rfl (by omega) ?_
        have el : (q.set (m + 1) q[m]).length = q.length := by simp
        rw [← el] at ho4
        refine DStore.ownTerm m (Nat.zero_add _) ho4 (by simpa using hml) ((ht1.ext hx3).u32 hv4) rfl ?_
        intro o5 h5 hu5 hv5 ho5
        refine DWrap.is (m : Int) (by omega) (by omega) ?_
        refine ⟨(m, (q.set (m + 1) q[m]).set m q[m + 1]), ⟨rfl, rfl, rfl, rfl, rfl, rfl, trivial⟩, ⟨(hgr3.upd hu4 rfl).upd hu5 rfl, (hu3.trans hv4).trans hv5, (swap_perm q m hjl).trans hpm, ?_, ?_, by dsimp only; omega⟩, by dsimp only; omega⟩
        · dsimp only
          rw [List.length_set, hql] at ho5; exact ho5
        · exact hs.swap hjl hji (by unfold ge; have := cmpE_swap q[m].2 q[m + 1].2; omega)
      · refine DWrap.is ((i + 1 : Nat) : Int) (by omega) (by omega) ?_
        refine ⟨(i + 1, q), ⟨rfl, rfl, rfl, rfl, rfl, trivial⟩, ⟨hgr3, hu3, hpm, ho3, ?_, by dsimp only; omega⟩, by dsimp only; omega⟩
        refine hs.done (hL.perm hpm) hjl fun m' e hm' => ?_
        obtain rfl : m' = m := by omega
        show 0 ≤ cmpE q[m'].2 q[m' + 1].2
        omega
    · refine DWrap.is ((i + 1 : Nat) : Int) (by omega) (by omega) ?_
      refine ⟨(i + 1, q), ⟨rfl, rfl, rfl, rfl, rfl, trivial⟩, ⟨hgr, hu, hpm, ho, ?_, by dsimp only; omega⟩, by dsimp only; omega⟩
      exact hs.done (hL.perm hpm) (show j < q.length by omega) fun m e _ => by omega
  · exact ⟨hgr, hu, q, hpm, ho, fun k l hkl hl hq => hs k l hkl (by omega) hq⟩

/-- slices.SortStableFunc on fewer than twenty terms -/
theorem SortStable_small (h : Heap) (base : Nat) (v : Value) (p : Pol) (hp : OwnP h base v p) (hL : L4 p) (hlen : p.length < 20) (hbase : base ≤ h.size) :
    Spec E.P f_slices_SortStableFunc #[v, .func (.func f_checkpoly_Normal_1) #[] #[]] h (fun _ h' => Grown h h' v.ownBlock ∧ U32 h h' ∧ ∃ q : Pol, q.Perm p ∧ OwnP h' base v q ∧ SortedTo q p.length) := by
  have hp0 := hp
  obtain ⟨css, hts, ho⟩ := hp
  obtain ⟨a, cap, rfl, -, -⟩ := ho.form
  refine Spec.intro hE (args := [_, _]) F_slices_SortStableFunc rfl rfl (Nat.le_of_ble_eq_true rfl) ?_
  have key : Spec E.P f_slices_stableCmpFunc #[.slice a p.length cap, .int .i64 p.length, .func (.func f_checkpoly_Normal_1) #[] #[]] h (fun _ h' => Grown h h' (Value.slice a p.length cap).ownBlock ∧ U32 h h' ∧ ∃ q : Pol, q.Perm p ∧ OwnP h' base (.slice a p.length cap) q ∧ SortedTo q p.length) := by
    refine Spec.intro hE (args := [_, _, _]) F_slices_stableCmpFunc rfl rfl (Nat.le_of_ble_eq_true rfl) ?_
    refine DLoop.intro hE (ι := Unit) (fun _ => [(6, .int .i64 20), (7, .int .i64 0), (8, .int .i64 20), (0, .slice a p.length cap), (1, .int .i64 p.length), (2, .func (.func f_checkpoly_Normal_1) #[] #[])]) (fun _ h' => h' = h) (fun _ => 0) () rfl ⟨rfl, rfl, rfl, rfl, rfl, rfl, trivial⟩ rfl ?_
    rintro _ h' rfl
    refine bsp.dec (fun hc => ?_) (fun hc => ?_)
    · exfalso; omega
    refine (insertionSort_any h' base _ p hp0 hL (by omega) hbase).mono ?_
    rintro _ h3 hpost
    refine DLoop.intro hE (ι := Unit) (fun _ => [(6, .int .i64 20), (1, .int .i64 p.length)]) (fun _ h' => h' = h3) (fun _ => 0) () rfl ⟨rfl, rfl, trivial⟩ rfl ?_
    rintro _ h4 rfl
    refine bsp.dec (fun hc => ?_) (fun hc => ?_)
    · exfalso; omega
    exact hpost
  refine key.mono ?_
  rintro _ h3 hpost
  exact hpost
end Go.Vc
