/- checkpoly.Normal gives the canonical form (fewer than twenty terms). -/
import Derived.Test.YtjjcncedfphnhaaNrm
import Derived.Test.YtjjcncedfphnhaaEqx
namespace Go.Vc
open Go.Proofs

abbrev nzb (p : Pol) : Pol := p.filter fun t => decide (t.1 ≠ 0)

theorem nzb_succ {p : Pol} {i : Nat} (hi : i < p.length) : nzb (p.take (i + 1)) = nzb (p.take i) ++ (if p[i].1 ≠ 0 then [p[i]] else []) := by
  unfold nzb
  rw [List.take_succ_eq_append_getElem hi, List.filter_append]
  congr 1
  by_cases h : p[i].1 = 0 <;> simp [h]

theorem cmpI_zero {z : Int} : cmpI z 0 = 0 ↔ z = 0 := by unfold cmpI; repeat' split; all_goals omega

theorem desc_pairwise {q : Pol} (hL : L4 q) (hd : Desc q) : q.Pairwise ge := by
  rw [List.pairwise_iff_getElem]
  intro i j hi hj hij
  obtain ⟨d, rfl⟩ : ∃ d, j = i + 1 + d := ⟨j - (i + 1), by omega⟩
  induction d with
  | zero => exact hd i hj
  | succ d ih =>
    exact ge_trans (hL _ (List.getElem_mem _)) (hL _ (List.getElem_mem _)) (hL _ (List.getElem_mem _)) (ih (by omega) (by omega)) (hd (i + 1 + d) hj)
theorem sorted_pairwise {q : Pol} (hs : SortedTo q q.length) : q.Pairwise ge := by
  rw [List.pairwise_iff_getElem]
  intro i j hi hj hij
  exact hs i j hij hj hj

theorem canon_push {r : Pol} {t : Term1} (hc : Canon r) (h4 : t.2.length = 4) (hn : t.1 ≠ 0) (hge : ∀ s ∈ r, ge s t) (hne : ∀ L b, r = L ++ [b] → b.2 ≠ t.2) : Canon (r ++ [t]) := by
  refine hc.append_one hn h4 fun s hs => ?_
  rcases List.eq_nil_or_concat r with rfl | ⟨L, b, rfl⟩
  · exact (List.not_mem_nil hs).elim
  have hb : cmpE b.2 t.2 = 1 := by
    have h1 := hge b (by simp)
    have h2 : cmpE b.2 t.2 ≠ 0 := fun e => hne L b (by simp) ((cmpE_zero (by rw [hc.l4 b (by simp), h4])).1 e)
    rcases cmpE_val b.2 t.2 with h | h | h
    · omega
    · exact absurd h h2
    · exact h
  rw [List.concat_eq_append] at hs hc
  rcases List.mem_append.1 hs with hs | hs
  · exact cmpE_trans1 (by rw [hc.l4 s (by simp [hs]), hc.l4 b (by simp)]) (by rw [hc.l4 b (by simp), h4]) (hc.init.2.1 s hs) (by omega)
  · rw [List.mem_singleton] at hs; subst hs; exact hb

theorem coefCells {h h' : Heap} {b off : Nat} {cs cv : List Value} (hc : CellsAt h b off cs) (hv : CellsAt h b off cv) (hl : cv.length ≤ cs.length) (hc' : CellsAt h' b off cs) : CellsAt h' b off cv := CellsAt.mk fun j v hj => by
  have hlt := (List.getElem?_eq_some_iff.1 hj).1
  have h1 := hv.get j v hj
  have h2 := hc.get j cs[j] (by simp)
  rw [h1] at h2
  injection h2 with h2
  rw [h2]
  exact hc'.get j _ (by simp)

set_option maxHeartbeats 1600000 in
theorem Normal_gen (h : Heap) (v : Value) (p : Pol) (hp : PolyAt h v p) (hlen : p.length < 1000000) (hsh : p.length < 20 ∨ Desc (nzb p)) (hb : norm1 p < huge) :
    Spec E.P f_checkpoly_Normal #[v] h (fun v' h' => Ext h h' ∧ ∃ q, PolyAt h' v' q ∧ Canon q ∧ (∀ e, cf q e = cf p e) ∧ norm1 q ≤ norm1 p ∧ q.length ≤ p.length) := by
  obtain ⟨a, cap, rfl, hcap, hp⟩ := hp
  refine Spec.intro hE (args := [_]) F_checkpoly_Normal rfl rfl (Nat.le_of_ble_eq_true rfl) ?_
  refine DMake.intro 0 p.length rfl rfl (Nat.zero_le _) (by omega) (by omega) ?_
  intro lb h1 hlb hx1 hs1 hg1
  have ho1 : OwnP h1 h.size (.slice (some ⟨lb, 0, none⟩) 0 p.length) [] := by
    refine ⟨[], TermsIn.nil _, ?_⟩
    have := Own.made (n := 0) (cap := p.length) (size := 6) (base := h.size) (by omega) hg1 (Nat.zero_le _) (by omega) (by rw [List.length_flatten]; simp; rfl)
    simpa using this
  have hL : L4 p := fun t ht => by
    obtain ⟨j, hj, rfl⟩ := List.getElem_of_mem ht
    obtain ⟨b, off, -, hc⟩ := hp (by intro e; subst e; simp at hj)
    obtain ⟨cs, ht, -⟩ := hc j hj
    exact ht.1
  refine DLoop.intro hE (ι := Nat × Value) (fun s => [(16, .int .i64 s.1), (14, .slice a p.length cap), (15, .int .i64 p.length), (3, s.2)])
    (fun s h' => Old h.size h h' ∧ s.1 ≤ p.length ∧ OwnP h' h.size s.2 (nzb (p.take s.1))) (fun s => p.length - s.1) (0, .slice (some ⟨lb, 0, none⟩) 0 p.length) rfl ⟨rfl, rfl, rfl, rfl, trivial⟩ ⟨hx1.old (Nat.le_refl _), Nat.zero_le _, ho1⟩ ?_
  rintro ⟨i, lv⟩ h2 ⟨hold, hi, ho⟩
  dsimp only at hi ho ⊢
  have hx2 := hold.toExt
  refine bsp.dec (fun hlt => ?_) (fun hlt => ?_)
  · have hip : i < p.length := by omega
    obtain ⟨b, off, rfl, hc⟩ := hp (by intro e; subst e; simp at hip)
    obtain ⟨cs, ht, hcs⟩ := hc i hip
    refine DIdx.intro i rfl rfl hip ?_
    refine DLoad.agg cs ht.len (hcs.ext hx2) ?_
    refine DNew.intro ?_
    intro tb h3 htb hx3 hs3 hg3
    refine DStore.full hg3 rfl ht.len rfl ht.ones ?_
    intro h4 hu4
    have hw4 : Whole h4 tb t_checkpoly_Term cs := hu4.at_
    have hx24 : Ext h2 h4 := ((Old.rfl (B := h2.size).ext hx3 (Nat.le_refl _)).upd hu4 (by omega)).toExt
    have hx04 := hx2.trans hx24
    have ht4 := ht.ext hx04
    obtain ⟨cv, hcv, hcvl, hiv⟩ := ht4.coef hw4.cellsAt
    have hzb : p[i].1.natAbs < huge := Nat.lt_of_le_of_lt (norm1_mem (List.getElem_mem hip)) hb
    refine DLoad.agg cv hcvl hcv ?_
    refine (Sign_any h4 _ _ hiv (by have := digs_huge hzb; omega)).mono ?_
    rintro _ h5 ⟨hx5, rfl⟩
    have hx25 := hx24.trans hx5
    refine bsp.intro (fun hnz => ?_) (fun hz => ?_)
    · have hnz' : p[i].1 ≠ 0 := by
        intro e; rw [e] at hnz; simp [cmpI] at hnz
      have hw5 := hw4.ext hx5
      refine (Min_any h5 tb 2 4 p[i].2 ht.1 ((ht4.ext hx5).exps hw5.cellsAt)).mono ?_
      rintro _ h5 ⟨rfl, m, rfl⟩
      obtain ⟨cv5, hcv5, hcvl5, hiv5⟩ := (ht4.ext hx5).coef hw5.cellsAt
      refine DDraw.intro hE (.take 0 (.take 1 (.take 4 (.take 2 (.take 5 (.one 3 (.take 6 (.one 7 (.one 8 (.one 9 .done)))))))))) none (fun hh => Whole hh tb t_checkpoly_Term cs) (by kernel_rfl) hw5 ?_
      refine QLoad.agg cv5 hcvl5 (fun hh e => ?_) ?_
      · exact coefCells hw5.cellsAt hcv5 (by rw [ht.len]; omega) e.cellsAt
      refine QLoad.agg (expV p[i].2) (by rw [expV_len]; exact ht.1) (fun _ e => ht.exps e.cellsAt) ?_
      refine (integer_Normal_any h5 _ _ hiv5 (by have := digs_huge hzb; omega)).mono ?_
      rintro v6 h6 ⟨hx6, hi6⟩
      refine ⟨hw5.ext hx6, ?_⟩
      have hi60 := hi6
      obtain ⟨a6, cap6, rfl, -⟩ := hi6
      obtain ⟨e0, e1, e2, e3, he⟩ := four ht.1
      rw [he]
      have ht6 : TermAt h6 [.bool (decide (p[i].1 < 0)), .slice a6 (digs p[i].1.natAbs).length cap6, .int .i64 (e0 : Nat), .int .i64 (e1 : Nat), .int .i64 (e2 : Nat), .int .i64 (e3 : Nat)] p[i] := ⟨ht.1, _, _, by rw [he]; rfl, hi60⟩
      refine DPure.build [.bool (decide (p[i].1 < 0)), .slice a6 (digs p[i].1.natAbs).length cap6, .int .i64 (e0 : Nat), .int .i64 (e1 : Nat), .int .i64 (e2 : Nat), .int .i64 (e3 : Nat)] (by kernel_rfl) ?_
      refine ⟨⟨rfl, by decide, rfl, rfl, trivial⟩, ?_⟩
      refine DNew.intro ?_
      intro nb h7 hnb hx7 hs7 hg7
      refine ⟨hw5.ext (hx6.trans hx7), ?_⟩
      have ho7 := ho.ext (hx25.trans (hx6.trans hx7))
      have hnl : (nzb (p.take i)).length ≤ i := by
        have := List.length_filter_le (fun t : Term1 => decide (t.1 ≠ 0)) (p.take i)
        rw [List.length_take] at this
        unfold nzb; omega
      refine DRun.term (ti := ⟨.slice t_checkpoly_Term, 1, 24, .slice none 0 0⟩) rfl rfl ho7 hg7 (ht6.ext hx7) (by omega) (Nat.le_trans hold.1 (Nat.le_trans hx25.size (Nat.le_trans hx6.size hx7.size))) ?_
      intro v8 h8 ho8 hgr8 hu8
      have hw8 : Whole h8 tb t_checkpoly_Term cs := hgr8.at (hw5.ext (hx6.trans hx7)) fun e => by
        have := (ho.block e.symm).2.1
        omega
      refine ⟨hw8, hw8, ?_⟩
      refine DWrap.is ((i + 1 : Nat) : Int) (by omega) (by omega) ?_
      refine ⟨(i + 1, v8), ⟨rfl, rfl, rfl, rfl, trivial⟩, ⟨?_, by dsimp only; omega, ?_⟩, by dsimp only; omega⟩
      · exact (hold.trans ((hx25.trans (hx6.trans hx7)).old hold.1)).grown hgr8 (Nat.le_refl _) fun k hk => (ho7.block hk).1
      · dsimp only
        rw [nzb_succ hip, if_pos hnz']; exact ho8
    · have hz' : p[i].1 = 0 := by
        have : cmpI p[i].1 0 = 0 := by simpa using hz
        exact cmpI_zero.1 this
      refine DWrap.is ((i + 1 : Nat) : Int) (by omega) (by omega) ?_
      refine ⟨(i + 1, lv), ⟨rfl, rfl, rfl, rfl, trivial⟩, ⟨hold.trans (hx25.old hold.1), by dsimp only; omega, ?_⟩, by dsimp only; omega⟩
      dsimp only
      rw [nzb_succ hip, if_neg (by simpa using hz'), List.append_nil]; exact ho.ext hx25
  · obtain rfl : i = p.length := by omega
    rw [List.take_length] at ho
    have hzl : (nzb p).length ≤ p.length := List.length_filter_le _ _
    have hzL : L4 (nzb p) := fun t ht => hL t (List.mem_filter.1 ht).1
    have hzn : norm1 (nzb p) ≤ norm1 p := norm1_filter p
    have hznz : ∀ t ∈ nzb p, t.1 ≠ 0 := fun t ht => by simpa using (List.mem_filter.1 ht).2
    have hzc : ∀ e, cf (nzb p) e = cf p e := cf_filter p
    generalize nzb p = z at *
    have hop := ho.poly
    obtain ⟨la, lcap, rfl, -, -⟩ := hop
    refine DJoin.cut hE (ι := Pol) (fun _ => [(3, .slice la z.length lcap)]) (fun q hh => Old h.size h hh ∧ q.Perm z ∧ OwnP hh h.size (.slice la z.length lcap) q ∧ q.Pairwise ge) rfl ?_ ?_
    · refine (IsSorted_any h2 _ z ho.poly (by omega)).mono ?_
      rintro _ h3 ⟨hx3, sb, rfl, hsb⟩
      cases sb
      · have hp20 : p.length < 20 := hsh.resolve_right fun hD => by have := hsb.2 hD; cases this
        refine (SortStable_small h3 h.size _ z (ho.ext hx3) hzL (by omega) (Nat.le_trans hold.1 hx3.size)).mono ?_
        rintro _ h4 ⟨hgr, hu, q, hpm, hoq, hs⟩
        refine ⟨q, ⟨rfl, trivial⟩, (hold.trans (hx3.old hold.1)).grown hgr (Nat.le_refl _) (fun k hk => (ho.block hk).1), hpm, hoq, ?_⟩
        rw [← hpm.length_eq] at hs
        exact sorted_pairwise hs
      · exact ⟨z, ⟨rfl, trivial⟩, hold.trans (hx3.old hold.1), List.Perm.refl _, ho.ext hx3, desc_pairwise hzL (hsb.1 rfl)⟩
    · clear ho hold hx2
      rintro q hs ⟨hold, hpm, ho, hpw⟩
      have hql := hpm.length_eq
      have hqL : L4 q := hzL.perm hpm
      have hqnz : ∀ t ∈ q, t.1 ≠ 0 := fun t ht => hznz t (hpm.mem_iff.1 ht)
      have hqn : norm1 q ≤ norm1 p := by rw [norm1_perm hpm]; exact hzn
      have hqc : ∀ e, cf q e = cf p e := fun e => by rw [cf_perm hpm e]; exact hzc e
      have hq20 : q.length < 1000000 := by omega
      rw [← hql] at ho
      have hqp := ho.poly
      obtain ⟨la', lcap', he, hcap2, hqA⟩ := hqp
      injection he with he1 he2 he3
      subst he1 he3
      refine DLoop.intro hE (ι := Nat × Value × Pol) (fun s => [(49, .int .i64 s.1), (47, .slice la z.length lcap), (48, .int .i64 z.length), (7, s.2.1)])
        (fun s hh => Ext hs hh ∧ s.1 ≤ q.length ∧ OwnP hh hs.size s.2.1 s.2.2 ∧ Canon s.2.2 ∧ (∀ t ∈ s.2.2, ∀ u ∈ q.drop s.1, ge t u) ∧ (∀ e, cf s.2.2 e + cf (q.drop s.1) e = cf q e) ∧ norm1 s.2.2 + norm1 (q.drop s.1) ≤ norm1 q ∧ s.2.2.length ≤ s.1)
        (fun s => q.length - s.1) (0, .slice none 0 0, []) rfl ⟨rfl, rfl, rfl, rfl, trivial⟩
        ⟨Ext.rfl, Nat.zero_le _, OwnP.nil _ _, Canon.nil, fun t ht => (List.not_mem_nil ht).elim, fun e => by simp [cf], by simp [norm1], Nat.le_refl _⟩ ?_
      rintro ⟨i, rv, r⟩ h5 ⟨hx5, hi, hor, hcr, hge, hcf, hnm, hrl⟩
      dsimp only at hi hor hcr hge hcf hnm hrl ⊢
      rw [← hql]
      refine bsp.dec (fun hlt => ?_) (fun hlt => ?_)
      · have hiq : i < q.length := by omega
        have hdrop := List.drop_eq_getElem_cons hiq
        rw [hdrop] at hge hcf hnm
        obtain ⟨b, off, rfl, hc⟩ := hqA (by intro e; subst e; simp at hiq)
        obtain ⟨cs, ht, hcs⟩ := hc i hiq
        have hrp := hor.poly
        obtain ⟨ra, rcap, rfl, hrcap, -⟩ := hrp
        refine DBlock.split hE rfl ?_
        refine DIdx.intro i rfl rfl (by omega) ?_
        refine DLoad.agg cs ht.len (hcs.ext hx5) ?_
        refine DNew.intro ?_
        intro tb h6 htb hx6 hs6 hg6
        refine DStore.full hg6 rfl ht.len rfl ht.ones ?_
        intro h7 hu7
        have hw7 : Whole h7 tb t_checkpoly_Term cs := hu7.at_
        have hx57 : Ext h5 h7 := ((Old.rfl (B := h5.size).ext hx6 (Nat.le_refl _)).upd hu7 (by omega)).toExt
        have hx7 := hx5.trans hx57
        have ht7 := ht.ext hx7
        have hor7 := hor.ext hx57
        have hB7 : hs.size ≤ h7.size := hx7.size
        refine DWrap.is ((r.length : Int) - 1) rfl (by omega) ?_
        refine DDraw.intro hE (.take 0 (.take 1 (.take 2 (.take 3 (.take 4 (.take 5 (.take 6 (.take 8 (.take 7 (.take 9 (.take 10 (.take 11 .done)))))))))))) none (· = h7) (by kernel_rfl) rfl ?_
        have hnzi : q[i].1 ≠ 0 := hqnz _ (List.getElem_mem hiq)
        have happ : ∀ (v8 : Value) (h8 h9 : Heap), (∀ L bb, r = L ++ [bb] → bb.2 ≠ q[i].2) → Ext h7 h8 → OwnP h9 hs.size v8 (r ++ [q[i]]) → Grown h8 h9 (Value.slice ra r.length rcap).ownBlock →
            (Ext hs h9 ∧ i + 1 ≤ q.length ∧ OwnP h9 hs.size v8 (r ++ [q[i]]) ∧ Canon (r ++ [q[i]]) ∧ (∀ t ∈ r ++ [q[i]], ∀ u ∈ q.drop (i + 1), ge t u) ∧ (∀ e, cf (r ++ [q[i]]) e + cf (q.drop (i + 1)) e = cf q e) ∧ norm1 (r ++ [q[i]]) + norm1 (q.drop (i + 1)) ≤ norm1 q ∧ (r ++ [q[i]]).length ≤ i + 1) := by
          intro v8 h8 h9 hne hx8 ho9 hgr9
          refine ⟨?_, hiq, ho9, canon_push hcr ht.1 hnzi (fun s hs' => hge s hs' _ List.mem_cons_self) hne, ?_, ?_, ?_, by simp; omega⟩
          · exact ((Old.rfl (B := hs.size).ext (hx7.trans hx8) (Nat.le_refl _)).grown hgr9 (Nat.le_refl _) fun k hk => (hor.block hk).1).toExt
          · intro t ht' u hu'
            rcases List.mem_append.1 ht' with ht' | ht'
            · exact hge t ht' u (List.mem_cons_of_mem _ hu')
            · rw [List.mem_singleton] at ht'; subst ht'
              have := hpw
              rw [← List.take_append_drop i q, hdrop, List.pairwise_append] at this
              exact (List.pairwise_cons.1 this.2.1).1 u hu'
          · intro e
            rw [cf_append, ← hcf e]
            simp only [cf]; omega
          · rw [norm1_append]
            simp only [norm1] at hnm ⊢; omega
        refine bsp.dec (fun hneg => ?_) (fun hpos => ?_)
        · have hr0 : r = [] := List.eq_nil_of_length_eq_zero (by omega)
          refine DLoad.agg cs ht.len hw7.cellsAt ?_
          obtain ⟨aa, cc, e0, e1, e2, e3, he, rfl, -⟩ := ht7.form
          refine ⟨⟨rfl, by decide, rfl, rfl, trivial⟩, ?_⟩
          refine DNew.intro ?_
          intro nb h8 hnb hx8 hs8 hg8
          refine DRun.term (ti := ⟨.slice t_checkpoly_Term, 1, 24, .slice none 0 0⟩) rfl rfl (hor7.ext hx8) hg8 (ht7.ext hx8) (by omega) (Nat.le_trans hB7 hx8.size) ?_
          intro v9 h9 ho9 hgr9 hu9
          refine DWrap.is ((i + 1 : Nat) : Int) (by omega) (by omega) ?_
          refine ⟨(i + 1, v9, r ++ [q[i]]), ⟨rfl, rfl, rfl, rfl, trivial⟩, happ v9 h8 h9 (fun L bb e => by rw [hr0] at e; simp at e) hx8 ho9 hgr9, by dsimp only; omega⟩
        · rcases List.eq_nil_or_concat r with hr | ⟨L, bb, hr⟩
          · exfalso; rw [hr] at hpos; simp at hpos
          rw [List.concat_eq_append] at hr
          have hrl1 : r.length = L.length + 1 := by rw [hr]; simp
          obtain ⟨g, cap9, hv9, hgB, hgs, hgc, cc0, hg0⟩ := hor7.at (by rw [hr]; simp)
          injection hv9 with hv1 hv2 hv3
          subst hv1 hv3
          have hLr : L.length < r.length := by omega
          have hbb : r[L.length] = bb := by simp [hr]
          obtain ⟨cb, htb', hcb⟩ := hor7.get hLr
          rw [hbb] at htb'
          refine DIdx.intro L.length rfl (by omega) (by omega) ?_
          refine QLoad.agg (expV bb.2) (by rw [expV_len]; exact htb'.1) (fun _ e => by subst e; rw [Nat.zero_add]; exact htb'.exps hcb) ?_
          refine QLoad.agg (expV q[i].2) (by rw [expV_len]; exact ht.1) (fun _ e => by subst e; exact ht7.exps hw7.cellsAt) ?_
          refine neqExp _ _ _ _ htb'.1 ht.1 ?_
          refine bsp.intro (fun hne => ?_) (fun heq => ?_)
          · have hne' : bb.2 ≠ q[i].2 := by simpa using hne
            refine DLoad.agg cs ht.len hw7.cellsAt ?_
            obtain ⟨aa, cc, e0, e1, e2, e3, he, rfl, -⟩ := ht7.form
            refine ⟨⟨rfl, by decide, rfl, rfl, trivial⟩, ?_⟩
            refine DNew.intro ?_
            intro nb h8 hnb hx8 hs8 hg8
            refine DRun.term (ti := ⟨.slice t_checkpoly_Term, 1, 24, .slice none 0 0⟩) rfl rfl (hor7.ext hx8) hg8 (ht7.ext hx8) (by omega) (Nat.le_trans hB7 hx8.size) ?_
            intro v9 h9 ho9 hgr9 hu9
            refine DWrap.is ((i + 1 : Nat) : Int) (by omega) (by omega) ?_
            refine ⟨(i + 1, v9, r ++ [q[i]]), ⟨rfl, rfl, rfl, rfl, trivial⟩, happ v9 h8 h9 (fun L' b' e => ?_) hx8 ho9 hgr9, by dsimp only; omega⟩
            rw [hr] at e
            obtain ⟨-, e⟩ := List.append_inj' e rfl
            injection e with e _
            rw [← e]; exact hne'
          · have heq' : bb.2 = q[i].2 := by simpa using heq
            obtain ⟨cvb, hcvb, hlvb, hivb⟩ := htb'.coef hcb
            obtain ⟨cvt, hcvt, hlvt, hivt⟩ := ht7.coef hw7.cellsAt
            simp only [norm1] at hnm
            have hnr : bb.1.natAbs ≤ norm1 r := norm1_mem (by rw [hr]; simp)
            refine DDraw.intro hE (.take 0 (.take 1 (.take 2 (.take 3 (.take 4 (.take 5 (.take 7 (.take 6 (.take 8 (.one 9 (.take 10 (.take 11 (.one 12 .done))))))))))))) (some 12) (Ext h7 ·) (by kernel_rfl) Ext.rfl ?_
            refine DIdx.intro L.length rfl (by omega) (by omega) ?_
            refine QLoad.agg cvb hlvb (fun _ e => by rw [Nat.zero_add]; exact hcvb.ext e) ?_
            refine QLoad.agg cvt hlvt (fun _ e => hcvt.ext e) ?_
            refine (integer_Add_any h7 _ _ _ _ hivb hivt (by have := digs_huge (z := bb.1) (by omega); omega) (by have := digs_huge (z := q[i].1) (by omega); omega)).mono ?_
            rintro v8 h8 ⟨hx8, hi8⟩
            refine ⟨hx8, ?_⟩
            refine DIdx.intro L.length rfl (by omega) (by omega) ?_
            refine DStore.ownCoef L.length (Nat.zero_add _) (hor7.ext hx8) hLr hi8 ?_
            intro o9 h9 hu9 hv9 ho9
            rw [hbb] at ho9
            have hset : r.set L.length (bb.1 + q[i].1, bb.2) = L ++ [(bb.1 + q[i].1, bb.2)] := by rw [hr]; simp
            have hlen' : (r.set L.length (bb.1 + q[i].1, bb.2)).length = r.length := by simp
            rw [← hlen'] at ho9
            have hL9 : L.length < (r.set L.length (bb.1 + q[i].1, bb.2)).length := by rw [hlen']; exact hLr
            obtain ⟨c9, ht9, hc9⟩ := ho9.get hL9
            obtain ⟨cv9, hcv9, hlv9, hiv9⟩ := ht9.coef hc9
            have hx9 : Ext hs h9 := ((Old.rfl (B := hs.size).ext (hx7.trans hx8) (Nat.le_refl _)).upd hu9 hgB).toExt
            refine DIdx.intro L.length rfl (by omega) (by omega) ?_
            refine DLoad.agg cv9 hlv9 (by rw [Nat.zero_add]; exact hcv9) ?_
            have h91 : ((r.set L.length (bb.1 + q[i].1, bb.2))[L.length]).1 = bb.1 + q[i].1 := by simp
            have hsumb : (bb.1 + q[i].1).natAbs < huge := by omega
            rw [h91] at hiv9
            refine (Sign_any h9 _ _ hiv9 (by have := digs_huge hsumb; omega)).mono ?_
            rintro _ h10 ⟨hx10, rfl⟩
            have ho10 := ho9.ext hx10
            have hcrL := (hr ▸ hcr).init
            have hgeL : ∀ t ∈ L, ∀ u ∈ q.drop (i + 1), ge t u := fun t ht' u hu' => hge t (by rw [hr]; simp [ht']) u (List.mem_cons_of_mem _ hu')
            have hnrL : norm1 r = norm1 L + bb.1.natAbs := by rw [hr, norm1_append]; simp [norm1]
            have hcfL : ∀ e, cf r e = cf L e + (if bb.2 = e then bb.1 else 0) := fun e => by rw [hr, cf_append]; simp [cf]
            refine bsp.intro (fun hz => ?_) (fun hz => ?_)
            · have hz' : bb.1 + q[i].1 = 0 := cmpI_zero.1 (by simpa using hz)
              refine DSlice.intro 0 L.length rfl (by show (r.length : Int) - 1 = _; omega) (Nat.zero_le _) (by omega) ?_
              rw [slV_zero]
              refine DWrap.is ((i + 1 : Nat) : Int) (by omega) (by omega) ?_
              have hoL := ho10.head L.length (by omega)
              rw [hset, List.take_left] at hoL
              refine ⟨(i + 1, _, L), ⟨rfl, rfl, rfl, rfl, trivial⟩, ⟨hx9.trans hx10, hiq, hoL, hcrL.1, hgeL, ?_, ?_, by dsimp only; omega⟩, by dsimp only; omega⟩
              · intro e
                have := hcf e
                rw [hcfL] at this
                simp only [cf] at this
                dsimp only
                rw [← heq'] at this
                rw [← this]
                split <;> omega
              · dsimp only; omega
            · have hz' : bb.1 + q[i].1 ≠ 0 := fun e => by
                rw [e] at hz; simp [cmpI] at hz
              refine DWrap.is ((i + 1 : Nat) : Int) (by omega) (by omega) ?_
              rw [hset] at ho10
              refine ⟨(i + 1, .slice (some ⟨g, 0, none⟩) r.length rcap, L ++ [(bb.1 + q[i].1, bb.2)]), ⟨rfl, rfl, rfl, rfl, trivial⟩, ⟨hx9.trans hx10, hiq, ?_, hcrL.1.append_one hz' hcrL.2.2.1 hcrL.2.1, ?_, ?_, ?_, ?_⟩, by dsimp only; omega⟩
              · have e : (L ++ [(bb.1 + q[i].1, bb.2)]).length = r.length := by simp [hrl1]
                rw [e] at ho10; exact ho10
              · intro t ht' u hu'
                rcases List.mem_append.1 ht' with ht' | ht'
                · exact hgeL t ht' u hu'
                · rw [List.mem_singleton] at ht'; subst ht'
                  exact hge bb (by rw [hr]; simp) u (List.mem_cons_of_mem _ hu')
              · intro e
                have := hcf e
                rw [hcfL] at this
                simp only [cf] at this
                dsimp only
                rw [cf_append]
                simp only [cf]
                rw [← heq'] at this
                rw [← this]
                split <;> omega
              · dsimp only
                rw [norm1_append]
                simp only [norm1]
                omega
              · simp; omega
      · obtain rfl : i = q.length := by omega
        have hxx : Ext h hs := hold.toExt
        refine ⟨hxx.trans hx5, r, hor.poly, hcr, fun e => ?_, ?_, by omega⟩
        · have := hcf e
          rw [List.drop_length] at this
          simp only [cf] at this
          rw [← hqc e]; omega
        · rw [List.drop_length] at hnm
          simp only [norm1] at hnm
          omega
theorem Normal_any (h : Heap) (v : Value) (p : Pol) (hp : PolyAt h v p) (hlen : p.length < 20) (hb : norm1 p < big) :
    Spec E.P f_checkpoly_Normal #[v] h (fun v' h' => Ext h h' ∧ ∃ q, PolyAt h' v' q ∧ Canon q ∧ (∀ e, cf q e = cf p e) ∧ norm1 q ≤ norm1 p ∧ q.length ≤ p.length) :=
  Normal_gen h v p hp (by omega) (.inl hlen) (Nat.lt_trans hb big_huge)
/-- a canonical polynomial of any length -/
theorem Normal_canon (h : Heap) (v : Value) (p : Pol) (hp : PolyAt h v p) (hc : Canon p) (hlen : p.length < 1000000) (hb : norm1 p < huge) :
    Spec E.P f_checkpoly_Normal #[v] h (fun v' h' => Ext h h' ∧ PolyAt h' v' p) := by
  have hz : nzb p = p := List.filter_eq_self.2 fun t ht => decide_eq_true (hc.nz t ht)
  refine (Normal_gen h v p hp hlen (.inr ?_) hb).mono ?_
  · rw [hz]
    intro i hi
    have := List.pairwise_iff_getElem.1 hc.desc i (i + 1) (by omega) hi (by omega)
    omega
  · rintro v' h' ⟨hx, q, hq, hcq, hcf, -, -⟩
    rw [canon_unique hcq hc fun e _ => hcf e] at hq
    exact ⟨hx, hq⟩
end Go.Vc
