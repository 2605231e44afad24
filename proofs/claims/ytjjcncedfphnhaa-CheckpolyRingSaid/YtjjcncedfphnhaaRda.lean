/- reducta, Reducta, Coef, Level. -/
import Derived.Test.YtjjcncedfphnhaaDfn
import Derived.Test.YtjjcncedfphnhaaAw
namespace Go.Vc
open Go.Proofs

/-- an append to a row of something else leaves the polynomials -/
theorem PolyAt.grown {h h' : Heap} {r : Option Nat} (g : Grown h h' r) (hr : ∀ k, r = some k → ∃ c e fr, h[k]? = some (.cells c e fr) ∧ e ≠ t_uint32 ∧ e ≠ t_checkpoly_Term) {v : Value} {p : Pol} (hp : PolyAt h v p) : PolyAt h' v p := by
  have hu : U32 h h' := g.u32 fun k hk => by
    obtain ⟨c, e, fr, h1, h2, -⟩ := hr k hk; exact ⟨c, e, fr, h1, h2⟩
  have key : ∀ (b : Nat) (c : Array Value) (fr : Nat × Nat), h[b]? = some (Obj.cells c t_checkpoly_Term fr) → h'[b]? = h[b]? := fun b c fr hb => by
    rw [g.at hb ?_, hb]
    intro e
    obtain ⟨c', e', fr', h1, -, h3⟩ := hr b e.symm
    rw [hb] at h1
    injection h1 with h1
    injection h1 with _ h2 _
    exact h3 h2.symm
  obtain ⟨a, cap, hv, ⟨h1, h2, h3⟩, hA⟩ := hp
  refine ⟨a, cap, hv, ⟨h1, h2, fun b off s e hne => ?_⟩, fun hne => ?_⟩
  · obtain ⟨c, fr, hb⟩ := h3 b off s e hne
    exact ⟨c, fr, by rw [key b c fr hb]; exact hb⟩
  · obtain ⟨b, off, ha, hc⟩ := hA hne
    obtain ⟨c, fr, hb⟩ := h3 b off none ha hne
    refine ⟨b, off, ha, fun j hj => ?_⟩
    obtain ⟨cs, ht, hcs⟩ := hc j hj
    refine ⟨cs, ht.u32 hu, CellsAt.mk fun k w hk => ?_⟩
    have := hcs.get k w hk
    unfold cell at this ⊢
    rw [key b c fr hb]; exact this

/-- a slice of polynomials of the call's own -/
def OwnPs (h : Heap) (base : Nat) (v : Value) (ps : List Pol) : Prop := ∃ xs : List Value, xs.length = ps.length ∧ (∀ (j : Nat) (w : Value) (p : Pol), xs[j]? = some w → ps[j]? = some p → PolyAt h w p) ∧ Own h base t_checkpoly_Poly 1 v ps.length xs
/-- a slice of polynomials -/
def PolysAt (h : Heap) (v : Value) (ps : List Pol) : Prop := ∃ a cap, v = .slice a ps.length cap ∧ ps.length ≤ cap ∧ (ps ≠ [] → ∃ b off, a = some ⟨b, off, none⟩ ∧ ∀ (j : Nat) (p : Pol), ps[j]? = some p → ∃ w, cell h b (off + j) = some w ∧ PolyAt h w p)

theorem OwnPs.nil (h : Heap) (base : Nat) : OwnPs h base (.slice none 0 0) [] := ⟨[], rfl, fun j w p hw => by simp at hw, Own.nil _ _ _ _⟩
theorem OwnPs.ext {h h' : Heap} (x : Ext h h') {base : Nat} {v : Value} {ps : List Pol} (ho : OwnPs h base v ps) : OwnPs h' base v ps := by
  obtain ⟨xs, hl, hx, ho⟩ := ho
  exact ⟨xs, hl, fun j w p h1 h2 => (hx j w p h1 h2).ext x, ho.ext x⟩
theorem OwnPs.block {h : Heap} {base : Nat} {v : Value} {ps : List Pol} (ho : OwnPs h base v ps) {k : Nat} (hk : v.ownBlock = some k) : base ≤ k ∧ k < h.size ∧ ∃ cur, h[k]? = some (.cells cur t_checkpoly_Poly (0, 0)) := by
  obtain ⟨xs, -, -, ho⟩ := ho; exact ho.block hk
theorem PolysAt.ext {h h' : Heap} (x : Ext h h') {v : Value} {ps : List Pol} (hp : PolysAt h v ps) : PolysAt h' v ps := by
  obtain ⟨a, cap, hv, hc, hp⟩ := hp
  exact ⟨a, cap, hv, hc, fun hne => by
    obtain ⟨b, off, ha, hc⟩ := hp hne
    exact ⟨b, off, ha, fun j p hj => by obtain ⟨w, h1, h2⟩ := hc j p hj; exact ⟨w, x.cell h1, h2.ext x⟩⟩⟩
theorem OwnPs.polys {h : Heap} {base : Nat} {v : Value} {ps : List Pol} (ho : OwnPs h base v ps) : PolysAt h v ps := by
  obtain ⟨xs, hl, hx, ho⟩ := ho
  obtain ⟨a, cap, hv, hc, hm⟩ := ho.form
  refine ⟨a, cap, hv, hc, fun hne => ?_⟩
  obtain ⟨g, cap', hv', h1, h2, h3, hcs, -⟩ := ho.cells (by simpa using hne)
  rw [hv] at hv'
  injection hv' with e1 e2 e3
  refine ⟨g, 0, e1, fun j p hj => ?_⟩
  have hjl : j < xs.length := by rw [hl]; exact (List.getElem?_eq_some_iff.1 hj).1
  refine ⟨xs[j], hcs.get j _ (by simp), hx j _ p (by simp) hj⟩

/-- append of a polynomial to a slice of polynomials -/
theorem DRun.one {t1 ty : TypeId} {ti : TI} (ht1 : E.ty t1 = some ti) (htd : ti.td = .slice t_checkpoly_Poly) {h : Heap} {base : Nat} {v : Value} {ps : List Pol} (ho : OwnPs h base v ps) {b : Nat} {w : Value} {p : Pol}
    (hw : Whole h b t_checkpoly_Poly [w]) (hp : PolyAt h w p) (hlen : ps.length < 100000000) (hbase : base ≤ h.size) {K : Value → Heap → Prop}
    (hk : ∀ v' h', OwnPs h' base v' (ps ++ [p]) → Grown h h' v.ownBlock → (∀ w q, PolyAt h w q → PolyAt h' w q) → K v' h') :
    DRun E (Builtin.append_ #[t1, t1] ty #[v, .slice (some ⟨b, 0, none⟩) 1 1]) h K := by
  obtain ⟨xs, hl, hx, ho⟩ := ho
  have h1 : ∀ u ∈ [w], u.oneCell' = true := by
    intro u hu
    rw [List.mem_singleton] at hu; subst hu
    obtain ⟨a, cap, rfl, -⟩ := hp; rfl
  refine DRun.append hE ht1 htd (e := t_checkpoly_Poly) rfl ho (by decide) (b := b) (off := 0) (m := 1) (c := 1) (news := [w]) rfl hw.cellsAt h1 (by omega) ?_ hbase ?_
  · show (ps.length + 1) * 24 ≤ _; omega
  · intro v' h' ho' hg _
    have hkeep : ∀ w q, PolyAt h w q → PolyAt h' w q := fun w q hq => hq.grown hg fun k hk => by
      obtain ⟨-, -, c, hc⟩ := ho.block hk
      exact ⟨c, _, _, hc, by decide, by decide⟩
    refine hk v' h' ⟨xs ++ [w], by simp [hl], fun j u q hu hq => ?_, by simpa using ho'⟩ hg hkeep
    by_cases hj : j < xs.length
    · rw [List.getElem?_append_left hj] at hu
      rw [List.getElem?_append_left (by omega)] at hq
      exact hkeep _ _ (hx j u q hu hq)
    · have hjl := (List.getElem?_eq_some_iff.1 hu).1
      simp at hjl
      have e : j = xs.length := by omega
      subst e
      rw [List.getElem?_append_right (Nat.le_refl _), Nat.sub_self] at hu
      rw [List.getElem?_append_right (by omega), show xs.length - ps.length = 0 by omega] at hq
      simp at hu hq
      rw [← hu, ← hq]; exact hkeep _ _ hp

/-- without the terms with the exponent d -/
def delP (f : Pol) (v d : Nat) : Pol := f.filter fun t => decide (t.2.getD v 0 ≠ d)
/-- the reducta, one after the other -/
def redL (v : Nat) : Nat → Pol → List Pol
  | 0, _ => []
  | n + 1, f => if degP f v < 1 then [] else f :: (if levelP (coefP f v (degP f v)) = 0 then [] else redL v n (delP f v (degP f v)))

theorem degP_mem : ∀ {f : Pol} {v : Nat}, f ≠ [] → ∃ t ∈ f, t.2.getD v 0 = degP f v
  | [], _, h => absurd rfl h
  | [t], v, _ => ⟨t, by simp, by simp [degP]⟩
  | t :: u :: r, v, _ => by
    obtain ⟨s, hs, he⟩ := degP_mem (f := u :: r) (v := v) (by simp)
    by_cases h : degP (u :: r) v ≤ t.2.getD v 0
    · exact ⟨t, by simp, by show _ = max (t.2.getD v 0) (degP (u :: r) v); omega⟩
    · exact ⟨s, List.mem_cons_of_mem _ hs, by show _ = max (t.2.getD v 0) (degP (u :: r) v); omega⟩
theorem delP_len {f : Pol} {v : Nat} (h : f ≠ []) : (delP f v (degP f v)).length < f.length := by
  obtain ⟨t, ht, he⟩ := degP_mem (v := v) h
  unfold delP
  rw [List.length_filter_lt_length_iff_exists]
  exact ⟨t, ht, by simp only [he]; simp⟩
theorem degP_nil_ne {f : Pol} {v : Nat} (h : ¬ degP f v < 1) : f ≠ [] := by
  intro e; subst e; simp [degP] at h

theorem Grown.cell1 {h h' : Heap} {base : Nat} {v : Value} {ps : List Pol} (ho : OwnPs h base v ps) (g : Grown h h' v.ownBlock) {b : Nat} {w : Value} (hc : Cell1 h b t_int w) : Cell1 h' b t_int w := by
  refine g.at hc fun e => ?_
  obtain ⟨-, -, c, hb⟩ := ho.block e.symm
  have hc' : h[b]? = some (Obj.cells [w].toArray t_int (0, 0)) := hc
  rw [hc'] at hb
  injection hb with hb
  injection hb with _ h2 _
  exact absurd h2 (by decide)

set_option maxHeartbeats 1600000 in
theorem reducta_any (h : Heap) (w : Value) (f : Pol) (v : Nat) (hv : v < 4) (hf : PolyAt h w f) (hlen : f.length < 100000) :
    Spec E.P f_checkpoly_reducta #[w, .int .i64 ((v : Int) + 1)] h (fun v' h' => Ext h h' ∧ PolysAt h' v' (redL v (f.length + 1) f)) := by
  refine Spec.intro hE (args := [_, _]) F_checkpoly_reducta rfl rfl (Nat.le_of_ble_eq_true rfl) ?_
  refine DNew.intro ?_
  intro lb h1 hlb hx1 hs1 hg1
  have hl1 : Cell1 h1 lb t_int (.int .i64 ((v : Int) + 1)) := hg1
  refine DLoad.scalar hl1.get ?_
  refine DLoad.scalar hl1.get ?_
  refine bsp.dec (p := (v : Int) + 1 > 4) (fun hbad => ?_) (fun _ => ?_)
  · exfalso; omega
  refine DLoop.intro hE (ι := Value × Pol × Value × List Pol × Nat) (fun s => [(0, s.1), (5, s.2.2.1), (3, .pointer (some ⟨lb, 0, none⟩))])
    (fun s h' => Ext h1 h' ∧ PolyAt h' s.1 s.2.1 ∧ OwnPs h' h1.size s.2.2.1 s.2.2.2.1 ∧ s.2.2.2.1 ++ redL v s.2.2.2.2 s.2.1 = redL v (f.length + 1) f ∧ s.2.1.length < s.2.2.2.2 ∧ s.2.1.length + s.2.2.2.1.length ≤ f.length) (fun s => s.2.2.2.2) (w, f, .slice none 0 0, [], f.length + 1) rfl ⟨rfl, rfl, rfl, trivial⟩
    ⟨Ext.rfl, hf.ext hx1, OwnPs.nil _ _, rfl, Nat.lt_succ_self _, by simp⟩ ?_
  rintro ⟨fv, p, rv, acc, n⟩ h2 ⟨hx2, hp, ho, heq, hn, hlp⟩
  dsimp only at hp ho heq hn hlp ⊢
  obtain ⟨m, rfl⟩ : ∃ m, n = m + 1 := ⟨n - 1, by omega⟩
  have hl2 : Cell1 h2 lb t_int (.int .i64 ((v : Int) + 1)) := hx2.at hl1
  refine DLoad.scalar hl2.get ?_
  refine (degree_any h2 fv p v hv hp (by omega)).mono ?_
  rintro _ h3 ⟨hx3, rfl⟩
  refine DNew.intro ?_
  intro db h4 hdb hx4 hs4 hg4
  refine DStore.full (c := [_]) (vs := [.int .i64 (if p = [] then -1 else (degP p v : Int))]) hg4 rfl rfl rfl rfl ?_
  intro h5 hu5
  have hd5 : Cell1 h5 db t_int (.int .i64 (if p = [] then -1 else (degP p v : Int))) := hu5.at_
  have hx25 : Ext h2 h5 := ((Old.rfl (B := h2.size).ext (hx3.trans hx4) (Nat.le_refl _)).upd hu5 (by have := hx3.size; omega)).toExt
  have hx5 := hx2.trans hx25
  refine DLoad.scalar hd5.get ?_
  refine bsp.dec (p := (if p = [] then -1 else (degP p v : Int)) < 1) (fun hlt => ?_) (fun hge => ?_)
  · refine ⟨hx1.trans hx5, ?_⟩
    have hr : redL v (m + 1) p = [] := by
      show (if degP p v < 1 then [] else _) = []
      rw [if_pos]
      by_cases hp0 : p = []
      · subst hp0; simp [degP]
      · rw [if_neg hp0] at hlt; omega
    rw [← heq, hr, List.append_nil]
    exact (ho.ext hx25).polys
  · have hp0 : p ≠ [] := fun e => hge (by rw [if_pos e]; decide)
    rw [if_neg hp0] at hge hd5
    have hdg : ¬ degP p v < 1 := by omega
    have ho5 := ho.ext hx25
    have hp5 := hp.ext hx25
    have hp50 := hp5
    obtain ⟨fa, fcap, rfl, -⟩ := hp5
    refine ⟨⟨rfl, by decide, rfl, rfl, trivial⟩, ?_⟩
    refine DNew.intro ?_
    intro nb h6 hnb hx6 hs6 hg6
    have ho6 := ho5.ext hx6
    refine DRun.one (ti := ⟨.slice t_checkpoly_Poly, 1, 24, .slice none 0 0⟩) rfl rfl ho6 hg6 (hp50.ext hx6) (by omega) (hx5.trans hx6).size ?_
    intro v7 h7 ho7 hgr7 hkeep
    have hp7 := hkeep _ _ (hp50.ext hx6)
    have hl7 : Cell1 h7 lb t_int (.int .i64 ((v : Int) + 1)) := Grown.cell1 ho6 hgr7 (hx6.at (hx25.at hl2))
    have hd7 : Cell1 h7 db t_int (.int .i64 (degP p v : Int)) := Grown.cell1 ho6 hgr7 (hx6.at hd5)
    have hx7 : Ext h1 h7 := ((Old.rfl (B := h1.size).ext (hx5.trans hx6) (Nat.le_refl _)).grown hgr7 (Nat.le_refl _) fun k hk => (ho6.block hk).1).toExt
    refine DLoad.scalar hl7.get ?_
    refine DLoad.scalar hd7.get ?_
    refine (coef_any h7 _ p v (degP p v : Int) hv (by omega) hp7 (by omega)).mono ?_
    rintro v8 h8 ⟨hx8, hc8⟩
    rw [Int.toNat_natCast] at hc8
    refine (isConst_any h8 v8 _ hc8).mono ?_
    rintro _ h9 ⟨rfl, rfl⟩
    refine bsp.dec (p := levelP (coefP p v (degP p v)) = 0) (fun hz => ?_) (fun hnz => ?_)
    · refine ⟨hx1.trans (hx7.trans hx8), ?_⟩
      have hr : redL v (m + 1) p = [p] := by
        show (if degP p v < 1 then [] else p :: (if levelP (coefP p v (degP p v)) = 0 then [] else redL v m (delP p v (degP p v)))) = [p]
        rw [if_neg hdg, if_pos hz]
      rw [← heq, hr]
      exact (ho7.ext hx8).polys
    · have hr : redL v (m + 1) p = p :: redL v m (delP p v (degP p v)) := by
        show (if degP p v < 1 then [] else p :: (if levelP (coefP p v (degP p v)) = 0 then [] else redL v m (delP p v (degP p v)))) = _
        rw [if_neg hdg, if_neg hnz]
      refine (Clone_any h9 _ p (hp7.ext hx8) (by omega)).mono ?_
      rintro v10 h10 ⟨hx10, ho10⟩
      have hx710 := hx8.trans hx10
      have hlt1 : lb < h9.size := by have := lt_of_get (hx8.at hl7); exact this
      have hlt2 : db < h9.size := by have := lt_of_get (hx8.at hd7); exact this
      refine (DeleteFunc_any h10 v10 p h9.size lb db v (degP p v : Int) hv ho10 (hx710.at hl7) (hx710.at hd7) hlt1 hlt2 hx10.size (by omega)).mono ?_
      rintro v11 h11 ⟨hold11, hu11, ho11⟩
      have hx911 : Ext h9 h11 := ⟨Nat.le_trans hx10.size hold11.1, fun k hk => by rw [hold11.2 k hk]; exact hx10.get k hk⟩
      have hfilt : (p.filter fun t => !isDel v (degP p v : Int) t) = delP p v (degP p v) := by
        unfold delP
        refine List.filter_congr fun t _ => ?_
        unfold isDel
        rw [Bool.eq_iff_iff]; simp; omega
      rw [hfilt] at ho11
      have hdl := delP_len (v := v) hp0
      refine ⟨(v11, delP p v (degP p v), v7, acc ++ [p], m), ⟨rfl, rfl, rfl, trivial⟩, ⟨hx7.trans (hx8.trans hx911), ho11.poly, (ho7.ext hx8).ext hx911, ?_, by dsimp only; omega, by simp; omega⟩, Nat.lt_succ_self _⟩
      dsimp only
      rw [← heq, hr]; simp
end Go.Vc
