/- slices.SortFunc on at most twelve polynomials. -/
import Derived.Test.YtnjkjmhhjooijaaDoorMl
namespace Go.Vc
open Go.Proofs

theorem cmpAt_swap {f g : List Nat} : ∀ n, cmpAt g f n = -cmpAt f g n
  | 0 => rfl
  | n + 1 => by
    have ih := cmpAt_swap (f := f) (g := g) n
    unfold cmpAt
    repeat' split
    all_goals omega
theorem cmpC_swap (f g : List Nat) : cmpC g f = -cmpC f g := by
  unfold cmpC
  by_cases h : f.length = g.length
  · rw [h]; simp only [Nat.lt_irrefl, if_false]; exact cmpAt_swap _
  · repeat' split
    all_goals omega
theorem cmpAt_trans {a b c : List Nat} : ∀ n, 0 ≤ cmpAt a b n → 0 ≤ cmpAt b c n → 0 ≤ cmpAt a c n
  | 0, _, _ => Int.le_refl _
  | n + 1, h1, h2 => by
    have ih := cmpAt_trans (a := a) (b := b) (c := c) n
    unfold cmpAt at h1 h2 ⊢
    repeat' split at h1
    all_goals repeat' split at h2
    all_goals repeat' split
    all_goals first | omega | (exact ih h1 h2)
theorem cmpC_trans {a b c : List Nat} (h1 : 0 ≤ cmpC a b) (h2 : 0 ≤ cmpC b c) : 0 ≤ cmpC a c := by
  unfold cmpC at h1 h2 ⊢
  split at h1
  · omega
  · split at h1
    · split at h2
      · omega
      · rw [if_neg (by omega)]; split
        · decide
        · split at h2
          · omega
          · exfalso; omega
    · split at h2
      · omega
      · split at h2
        · rw [if_neg (by omega), if_pos (by omega)]; decide
        · rw [if_neg (by omega), if_neg (by omega)]
          have e : b.length = a.length := by omega
          rw [e] at h2
          exact cmpAt_trans _ h1 h2

/-- ascending -/
abbrev leC (x y : List Nat) : Prop := 0 ≤ cmpC y x
def SortedTo (q : List (List Nat)) (i : Nat) : Prop := ∀ k l (hkl : k < l) (hl : l < i) (hq : l < q.length), leC q[k] q[l]
def SortedBut (q : List (List Nat)) (i j : Nat) : Prop := ∀ k l (hkl : k < l) (hl : l ≤ i) (hq : l < q.length), l ≠ j → leC q[k] q[l]
theorem leC_trans {a b c : List Nat} (h1 : leC a b) (h2 : leC b c) : leC a c := cmpC_trans h2 h1
theorem SortedBut.done {q : List (List Nat)} {i j : Nat} (hs : SortedBut q i j) (hj : j < q.length) (h : ∀ m, j = m + 1 → ∀ (hm : m < q.length), leC q[m] q[j]) : SortedTo q (i + 1) := fun k l hkl hl hq => by
  by_cases e : l = j
  · subst e
    obtain ⟨m, rfl⟩ : ∃ m, l = m + 1 := ⟨l - 1, by omega⟩
    have h1 := h m rfl (by omega)
    by_cases e : k = m
    · subst e; exact h1
    · exact leC_trans (hs k m (by omega) (by omega) (by omega) (by omega)) h1
  · exact hs k l hkl (by omega) hq e
theorem swap_get (q : List (List Nat)) (m : Nat) (hm : m + 1 < q.length) (k : Nat) (hk : k < q.length) : ((q.set (m + 1) q[m]).set m q[m + 1])[k]'(by simpa using hk) = if k = m then q[m + 1] else if k = m + 1 then q[m] else q[k] := by
  rw [List.getElem_set, List.getElem_set]
  by_cases e : k = m
  · rw [if_pos e.symm, if_pos e]
  · rw [if_neg (fun x => e x.symm), if_neg e]
    by_cases e : k = m + 1
    · rw [if_pos e.symm, if_pos e]
    · rw [if_neg (fun x => e x.symm), if_neg e]
theorem SortedBut.swap {q : List (List Nat)} {i m : Nat} (hs : SortedBut q i (m + 1)) (hm : m + 1 < q.length) (hmi : m + 1 ≤ i) (hlt : ¬ leC q[m] q[m + 1]) : SortedBut ((q.set (m + 1) q[m]).set m q[m + 1]) i m := fun k l hkl hl hq hne => by
  have hql : l < q.length := by simpa using hq
  have hback : leC q[m + 1] q[m] := by
    have := cmpC_swap q[m] q[m + 1]
    unfold leC at hlt ⊢; omega
  rw [swap_get q m hm k (by omega), swap_get q m hm l hql, if_neg hne]
  by_cases e1 : l = m + 1
  · rw [if_pos e1]
    by_cases e2 : k = m
    · rw [if_pos e2]; exact hback
    · rw [if_neg e2, if_neg (show ¬ k = m + 1 by omega)]
      exact hs k m (by omega) (by omega) (by omega) (by omega)
  · rw [if_neg e1]
    by_cases e2 : k = m
    · rw [if_pos e2]
      exact hs (m + 1) l (by omega) hl hql e1
    · rw [if_neg e2]
      by_cases e3 : k = m + 1
      · rw [if_pos e3]; exact hs m l (by omega) hl hql e1
      · rw [if_neg e3]; exact hs k l hkl hl hql e1
theorem swap_perm (q : List (List Nat)) (m : Nat) (hm : m + 1 < q.length) : ((q.set (m + 1) q[m]).set m q[m + 1]).Perm q := List.set_set_perm (i := m + 1) (j := m) hm (by omega)

theorem splice_append {A B vs : List Value} {off : Nat} (h : off + vs.length ≤ A.length) : splice (A ++ B) off vs = splice A off vs ++ B := by
  unfold splice
  rw [List.take_append_of_le_length (by omega), List.drop_append_of_le_length (by omega)]
  simp only [List.append_assoc]
theorem splice_length {A vs : List Value} {off : Nat} (h : off + vs.length ≤ A.length) : (splice A off vs).length = A.length := by
  unfold splice; simp only [List.length_append, List.length_take, List.length_drop]; omega
theorem splice_take {c vs : List Value} {off k : Nat} (h : off + vs.length ≤ k) (hk : k ≤ c.length) : (splice c off vs).take k = splice (c.take k) off vs := by
  have hl : (c.take k).length = k := by rw [List.length_take]; omega
  conv => lhs; rw [← List.take_append_drop k c]
  rw [splice_append (by omega), List.take_append_of_le_length (by rw [splice_length (by omega), hl]; exact Nat.le_refl _), List.take_of_length_le (by rw [splice_length (by omega), hl]; exact Nat.le_refl _)]
theorem DStore.own {n g off m cap base size : Nat} {e : TypeId} {v : Value} {h : Heap} {vs xs : List Value} {K : Heap → Prop} (ho : Own h base e size (.slice (some ⟨g, 0, none⟩) n cap) n xs) (hv : v.cells = vs.toArray) (hl : vs.length = m) (hfit : off + m ≤ xs.length) (h1 : vs.all Value.oneCell' = true)
    (hk : ∀ o h', Upd h g o h' → Own h' base e size (.slice (some ⟨g, 0, none⟩) n cap) n (splice xs off vs) → K h') : DStore m g off v h K := by
  obtain ⟨hx, ho⟩ := ho
  rcases ho with ⟨h0, -⟩ | ⟨g', cap', cur, he, hb, hg, hn, hm, hs, ht⟩
  · cases h0
  · injection he with e1 e2 e3
    injection e1 with e1
    injection e1 with e1 _
    subst e1 e3
    have hxl : xs.length ≤ cur.toList.length := by rw [← ht]; simp; omega
    refine DStore.intro (c := cur.toList) (by simpa using hg) hv hl (by omega) (fun u hu => List.all_eq_true.1 h1 u hu) ?_
    intro h' hu
    refine hk _ h' hu ⟨?_, .inr ⟨g, cap, _, rfl, hb, hu.at_, hn, hm, ?_, ?_⟩⟩
    · unfold splice; simp only [List.length_append, List.length_take, List.length_drop]; omega
    · unfold splice; simp only [List.size_toArray, List.length_append, List.length_take, List.length_drop]; rw [← hs]; simp only [Array.length_toList] at *; omega
    · show (splice cur.toList off vs).take (n * size) = _
      rw [splice_take (by omega) (by omega), ht]

theorem DStore.ownPoly {g off cap base : Nat} {h : Heap} {L : List (List Nat)} {K : Heap → Prop} (j : Nat) {w : Value} {l : List Nat} (hoff : off = j) (ho : PsOwn h base (.slice (some ⟨g, 0, none⟩) L.length cap) L) (hj : j < L.length) (hp : PoT h w l)
    (hk : ∀ o h', Upd h g o h' → (∀ w l, PoT h w l → PoT h' w l) → PsOwn h' base (.slice (some ⟨g, 0, none⟩) L.length cap) (L.set j l) → K h') : DStore 1 g off w h K := by
  subst hoff
  obtain ⟨-, -, c, hc⟩ := ho.block (k := g) rfl
  obtain ⟨xs, hl, hx, ho⟩ := ho
  have hp0 := hp
  obtain ⟨⟨a, cp, rfl, -⟩, -⟩ := hp
  refine DStore.own (vs := [_]) ho rfl rfl (by omega) rfl ?_
  intro o h' hu ho'
  have hkeep : ∀ w l, PoT h w l → PoT h' w l := fun w l hp => hp.grown (r := some g) ⟨by rw [hu.size]; exact Nat.le_refl _, fun k _ hne => hu.get k fun e => hne (by rw [e])⟩ fun k hk => by
    injection hk with hk
    subst hk
    exact ⟨c, _, _, hc, by decide⟩
  have es : splice xs off [Value.slice a l.length cp] = xs.set off (.slice a l.length cp) := by
    unfold splice
    rw [List.set_eq_take_append_cons_drop, if_pos (by omega)]
    simp
  rw [es] at ho'
  refine hk o h' hu hkeep ⟨xs.set off (.slice a l.length cp), by simpa using hl, fun i u m hu hm => ?_, by rw [List.length_set]; exact ho'⟩
  by_cases e : i = off
  · subst e
    rw [List.getElem?_set_self (by omega)] at hu
    rw [List.getElem?_set_self (by omega)] at hm
    injection hu with hu
    injection hm with hm
    rw [← hu, ← hm]; exact hkeep _ _ hp0
  · rw [List.getElem?_set_ne (fun h => e h.symm)] at hu hm
    exact hkeep _ _ (hx i u m hu hm)

theorem PsOwn.get {h : Heap} {base g n cap : Nat} {L : List (List Nat)} (ho : PsOwn h base (.slice (some ⟨g, 0, none⟩) n cap) L) {j : Nat} (hj : j < L.length) : ∃ w, PoT h w L[j] ∧ cell h g (0 + j) = some w := by
  obtain ⟨xs, hl, hx, ho⟩ := ho
  obtain ⟨g', cap', hv', -, -, -, hcs, -⟩ := ho.cells (by omega)
  injection hv' with e1 e2 e3
  injection e1 with e1
  injection e1 with e1 _
  subst e1
  have hjx : j < xs.length := by omega
  exact ⟨xs[j], hx j _ _ (by simp) (by simp), hcs.get j _ (by simp)⟩

/-- the comparison that Factors hands to the sort -/
abbrev cmpFn (pb : Nat) : Value := .func (.func f_modpoly_Factors_1) #[] #[.pointer (some ⟨pb, 0, none⟩)]
theorem cmpFn_any (h : Heap) (v w : Value) (f g : List Nat) (pb p : Nat) (hf : Nums .u32 h v f) (hg : Nums .u32 h w g) (cf : Can p f) (cg : Can p g) (hp : Fld p) (hpb : Whole h pb t_uint32 [vnum .u32 p]) (hlf : f.length < 10000) (hlg : g.length < 10000) :
    Spec E.P f_modpoly_Factors_1 #[v, w, .pointer (some ⟨pb, 0, none⟩)] h (fun v' h' => Ext h h' ∧ v' = .int .i64 (cmpC f g)) := by
  refine Spec.intro hE (args := [_, _, _]) F_modpoly_Factors_1 rfl rfl (Nat.le_of_ble_eq_true rfl) ?_
  refine DLoad.scalar (hpb.get 0 rfl) ?_
  refine (modCompare_any h v w f g p hf hg (cf.dgp hp) (cg.dgp hp) hp.lt (by omega) (by omega)).mono ?_
  rintro _ h1 ⟨hx1, rfl⟩
  have hp2 := hp.two
  rw [hp.mx, cf.self (by omega), cg.self (by omega)]
  exact ⟨hx1, rfl⟩

theorem Grown.rfl {h : Heap} {r : Option Nat} : Grown h h r := ⟨Nat.le_refl _, fun _ _ _ => Eq.refl _⟩
theorem Grown.ext {h h' h'' : Heap} {r : Option Nat} (g : Grown h h' r) (x : Ext h' h'') : Grown h h'' r := ⟨Nat.le_trans g.size x.size, fun k hk hn => (x.get k (Nat.lt_of_lt_of_le hk g.size)).trans (g.get k hk hn)⟩
theorem Grown.upd {h h' h'' : Heap} {r : Option Nat} {b : Nat} {o : Obj} (g : Grown h h' r) (u : Upd h' b o h'') (hb : r = some b) : Grown h h'' r := ⟨by rw [u.size]; exact g.size, fun k hk hn => (u.get k (fun e => hn (by rw [hb, e]))).trans (g.get k hk hn)⟩

set_option maxHeartbeats 1600000 in
theorem insertionSort_any (h : Heap) (base : Nat) (v : Value) (L : List (List Nat)) (pb p : Nat) (hL : PsOwn h base v L) (cL : ∀ l ∈ L, Can p l ∧ l.length < 10000) (hp : Fld p) (hpb : Whole h pb t_uint32 [vnum .u32 p]) (hlen : L.length < 1000) :
    Spec E.P f_slices_insertionSortCmpFunc #[v, .int .i64 0, .int .i64 L.length, cmpFn pb] h (fun _ h' => Grown h h' v.ownBlock ∧ ∃ Q : List (List Nat), Q.Perm L ∧ PsOwn h' base v Q ∧ SortedTo Q L.length) := by
  refine Spec.intro hE (args := [_, _, _, _]) F_slices_insertionSortCmpFunc rfl rfl (Nat.le_of_ble_eq_true rfl) ?_
  refine DWrap.is 1 rfl (by omega) ?_
  by_cases hne : L = []
  · subst hne
    refine DLoop.intro hE (ι := Unit) (fun _ => [(8, .int .i64 1), (0, v), (1, .int .i64 0), (2, .int .i64 0)]) (fun _ h' => h' = h) (fun _ => 0) () rfl ⟨rfl, rfl, rfl, rfl, trivial⟩ rfl ?_
    rintro _ h' rfl
    exact ⟨Grown.rfl, [], List.Perm.refl _, hL, fun k l _ hl => by simp at hl⟩
  obtain ⟨g, cap, rfl⟩ : ∃ g cap, v = .slice (some ⟨g, 0, none⟩) L.length cap := by
    obtain ⟨xs, -, -, ho⟩ := hL
    obtain ⟨g, cap, hv, -⟩ := ho.cells (by simpa using hne)
    exact ⟨g, cap, hv⟩
  have hgp : pb ≠ g := by
    rintro rfl
    obtain ⟨-, -, c, hc⟩ := hL.block (k := pb) rfl
    rw [show h[pb]? = _ from hpb] at hc
    injection hc with hc
    injection hc with _ h2 _
    exact absurd h2 (by decide)
  refine DLoop.intro hE (ι := Nat × List (List Nat)) (fun s => [(8, .int .i64 s.1), (0, .slice (some ⟨g, 0, none⟩) L.length cap), (1, .int .i64 0), (2, .int .i64 L.length), (3, cmpFn pb)])
    (fun s h' => Grown h h' (some g) ∧ s.2.Perm L ∧ PsOwn h' base (.slice (some ⟨g, 0, none⟩) L.length cap) s.2 ∧ SortedTo s.2 s.1 ∧ 1 ≤ s.1) (fun s => L.length - s.1) (1, L) rfl ⟨rfl, rfl, rfl, rfl, rfl, trivial⟩
    ⟨Grown.rfl, List.Perm.refl _, hL, fun k l hkl hl => by dsimp only at hl; omega, Nat.le_refl _⟩ ?_
  rintro ⟨i, q⟩ h' ⟨hgr, hpm, ho, hs, hi1⟩
  dsimp only at hpm ho hs hi1 ⊢
  have hql := hpm.length_eq
  refine bsp.dec (fun hlt => ?_) (fun hlt => ?_)
  · refine DLoop.intro hE (ι := Nat × List (List Nat)) (fun s => [(9, .int .i64 s.1), (8, .int .i64 i), (0, .slice (some ⟨g, 0, none⟩) L.length cap), (1, .int .i64 0), (2, .int .i64 L.length), (3, cmpFn pb)])
      (fun s h' => Grown h h' (some g) ∧ s.2.Perm L ∧ PsOwn h' base (.slice (some ⟨g, 0, none⟩) L.length cap) s.2 ∧ SortedBut s.2 i s.1 ∧ s.1 ≤ i) (fun s => s.1) (i, q) rfl ⟨rfl, rfl, rfl, rfl, rfl, rfl, trivial⟩
      ⟨hgr, hpm, ho, fun k l hkl hl hq hne => hs k l hkl (by omega) hq, Nat.le_refl _⟩ ?_
    clear hgr hpm ho hs hql
    rintro ⟨j, q⟩ h' ⟨hgr, hpm, ho, hs, hji⟩
    dsimp only at hpm ho hs hji ⊢
    have hql := hpm.length_eq
    have cq : ∀ l ∈ q, Can p l ∧ l.length < 10000 := fun l hl => cL l (hpm.mem_iff.1 hl)
    have hpb' : Whole h' pb t_uint32 [vnum .u32 p] := hgr.at hpb fun e => hgp (by injection e)
    refine DDraw.intro hE (.take 0 (.take 1 (.take 2 (.take 3 (.take 4 (.take 5 (.take 6 (.take 7 (.take 9 (.take 10 (.take 11 (.take 12 (.take 8 (.take 13 (.one 14 (.take 15 (.take 16 .done))))))))))))))))) none (Ext h' ·) (by kernel_rfl) Ext.rfl ?_
    refine bsp.dec (fun hj => ?_) (fun hj => ?_)
    · obtain ⟨m, rfl⟩ : ∃ m, j = m + 1 := ⟨j - 1, by omega⟩
      have hjl : m + 1 < q.length := by omega
      have hml : m < q.length := by omega
      obtain ⟨w1, ht1, hc1⟩ := ho.get hjl
      obtain ⟨w2, ht2, hc2⟩ := ho.get hml
      refine DIdx.intro (m + 1) rfl rfl (by omega) ?_
      refine DWrap.is (m : Int) (by omega) (by omega) ?_
      refine DIdx.intro m rfl rfl (by omega) ?_
      refine QLoad.scalar (fun _ e => e.cell hc1) ?_
      refine QLoad.scalar (fun _ e => e.cell hc2) ?_
      refine (cmpFn_any h' w1 w2 _ _ pb p ht1.1 ht2.1 (cq _ (List.getElem_mem _)).1 (cq _ (List.getElem_mem _)).1 hp hpb' (cq _ (List.getElem_mem _)).2 (cq _ (List.getElem_mem _)).2).mono ?_
      rintro _ h3 ⟨hx3, rfl⟩
      refine ⟨hx3, ?_⟩
      have hgr3 := hgr.ext hx3
      have ho3 := ho.ext hx3
      refine bsp.dec (fun hl => ?_) (fun hl => ?_)
      · refine DDraw.intro hE (.take 0 (.take 1 (.take 2 (.take 3 (.take 4 (.take 5 (.take 6 (.take 7 (.take 8 (.take 10 (.take 11 (.take 12 (.take 9 (.take 13 (.take 14 (.one 15 (.take 16 (.one 17 .done)))))))))))))))))) (some 15) (· = h3) (by kernel_rfl) rfl ?_
        refine DWrap.is (m : Int) (by omega) (by omega) ?_
        refine DWrap.is (m : Int) (by omega) (by omega) ?_
        refine DIdx.intro m rfl rfl (by omega) ?_
        refine DIdx.intro (m + 1) rfl rfl (by omega) ?_
        refine QLoad.scalar (fun _ e => by rw [e]; exact hx3.cell hc2) ?_
        refine QLoad.scalar (fun _ e => by rw [e]; exact hx3.cell hc1) ?_
        refine DIdx.intro (m + 1) rfl rfl (by omega) ?_
        rw [← hql] at ho3
        refine DStore.ownPoly (m + 1) (Nat.zero_add _) ho3 hjl (ht2.ext hx3) ?_
        intro o4 h4 hu4 hk4 ho4
        refine DIdx.intro m rfl rfl (by omega) ?_
        have el : (q.set (m + 1) q[m]).length = q.length := by simp
        rw [← el] at ho4
        refine DStore.ownPoly m (Nat.zero_add _) ho4 (by simpa using hml) (hk4 _ _ (ht1.ext hx3)) ?_
        intro o5 h5 hu5 hk5 ho5
        refine DWrap.is (m : Int) (by omega) (by omega) ?_
        refine ⟨(m, (q.set (m + 1) q[m]).set m q[m + 1]), ⟨rfl, rfl, rfl, rfl, rfl, rfl, trivial⟩, ⟨(hgr3.upd hu4 rfl).upd hu5 rfl, (swap_perm q m hjl).trans hpm, ?_, ?_, by dsimp only; omega⟩, by dsimp only; omega⟩
        · dsimp only
          rw [List.length_set, hql] at ho5; exact ho5
        · exact hs.swap hjl hji (by unfold leC; omega)
      · refine DWrap.is ((i + 1 : Nat) : Int) (by omega) (by omega) ?_
        refine ⟨(i + 1, q), ⟨rfl, rfl, rfl, rfl, rfl, trivial⟩, ⟨hgr3, hpm, ho3, ?_, by dsimp only; omega⟩, by dsimp only; omega⟩
        refine hs.done hjl fun m' e hm' => ?_
        obtain rfl : m' = m := by omega
        show 0 ≤ cmpC q[m' + 1] q[m']
        omega
    · refine DWrap.is ((i + 1 : Nat) : Int) (by omega) (by omega) ?_
      refine ⟨(i + 1, q), ⟨rfl, rfl, rfl, rfl, rfl, trivial⟩, ⟨hgr, hpm, ho, ?_, by dsimp only; omega⟩, by dsimp only; omega⟩
      exact hs.done (show j < q.length by omega) fun m e _ => by omega
  · exact ⟨hgr, q, hpm, ho, fun k l hkl hl hq => hs k l hkl (by omega) hq⟩

theorem SortFunc_any (h : Heap) (base : Nat) (v : Value) (L : List (List Nat)) (pb p : Nat) (hL : PsOwn h base v L) (cL : ∀ l ∈ L, Can p l ∧ l.length < 10000) (hp : Fld p) (hpb : Whole h pb t_uint32 [vnum .u32 p]) (hlen : L.length ≤ 12) :
    Spec E.P f_slices_SortFunc #[v, cmpFn pb] h (fun _ h' => Grown h h' v.ownBlock ∧ ∃ Q : List (List Nat), Q.Perm L ∧ PsOwn h' base v Q ∧ SortedTo Q L.length) := by
  have hL0 := hL
  obtain ⟨a, cap, rfl⟩ : ∃ a cap, v = .slice a L.length cap := by
    obtain ⟨xs, -, -, ho⟩ := hL
    obtain ⟨a, cap, hv, -⟩ := ho.form
    exact ⟨a, cap, hv⟩
  refine Spec.intro hE (args := [_, _]) F_slices_SortFunc rfl rfl (Nat.le_of_ble_eq_true rfl) ?_
  refine DWrap.eq (m := (L.length : Nat)) (by rw [IntKind.wrap_u64]; omega) ?_
  refine (Len_small h L.length (by omega)).mono ?_
  rintro _ h ⟨rfl, k, rfl, hk⟩
  have key : Spec E.P f_slices_pdqsortCmpFunc #[.slice a L.length cap, .int .i64 0, .int .i64 L.length, .int .i64 k, cmpFn pb] h (fun _ h' => Grown h h' (Value.slice a L.length cap).ownBlock ∧ ∃ Q : List (List Nat), Q.Perm L ∧ PsOwn h' base (.slice a L.length cap) Q ∧ SortedTo Q L.length) := by
    refine Spec.intro hE (args := [_, _, _, _, _]) F_slices_pdqsortCmpFunc rfl rfl (Nat.le_of_ble_eq_true rfl) ?_
    refine DLoop.intro hE (ι := Unit) (fun _ => [(0, .slice a L.length cap), (1, .int .i64 0), (2, .int .i64 L.length), (3, .int .i64 k), (4, cmpFn pb)]) (fun _ h' => h' = h) (fun _ => 0) () rfl ⟨rfl, rfl, rfl, rfl, rfl, trivial⟩ rfl ?_
    rintro _ h' rfl
    refine DBlock.split hE rfl ?_
    refine DWrap.is (L.length : Int) (by omega) (by omega) ?_
    refine bsp.dec (p := (L.length : Int) ≤ 12) (fun _ => ?_) (fun hc => ?_)
    · exact (insertionSort_any h' base _ L pb p hL0 cL hp hpb (by omega)).mono fun _ _ hh => hh
    · exfalso; omega
  exact key.mono fun _ _ hh => hh
end Go.Vc
