/- Sums of canonical polynomials. -/
import Derived.Test.YtjjcncedfphnhaaTim
import Derived.Laws.OwnMore
namespace Go.Vc
open Go.Proofs

theorem PolyAt.slice {h : Heap} {a : Option Addr} {cap : Nat} {p : Pol} (hp : PolyAt h (.slice a p.length cap) p) {l u : Nat} (hlu : l ≤ u) (hu : u ≤ p.length) : PolyAt h (slV 6 a cap l u) ((p.take u).drop l) := by
  obtain ⟨a', cap', he, ⟨hcap, hz, hty⟩, hA⟩ := hp
  injection he with e1 e2 e3
  subst e1 e3
  have hlen : ((p.take u).drop l).length = u - l := by simp; omega
  refine ⟨if cap = l then a else a.map (·.add (l * 6)), cap - l, by rw [hlen]; rfl, ⟨by rw [hlen]; omega, fun e => ?_, fun b off s e hne => ?_⟩, fun hne => ?_⟩
  · split at e
    · omega
    · have : a = none := by simpa using e
      have := hz this; omega
  · have hp0 : p ≠ [] := by intro e; subst e; simp at hne
    split at e
    · exact hty b off s e hp0
    · cases a with
      | none => cases e
      | some ad =>
        obtain ⟨b', off', s'⟩ := ad
        simp [Addr.add] at e
        obtain ⟨c, fr, hb⟩ := hty b' off' s' rfl hp0
        have eb : b' = b := by
          split at e
          · injection e with e1 _ _
          · injection e with e1 _ _
        exact ⟨c, fr, by rw [← eb]; exact hb⟩
  have hlt : l < u := by
    rcases Nat.lt_or_ge l u with h | h
    · exact h
    · exfalso; apply hne; apply List.eq_nil_of_length_eq_zero; omega
  obtain ⟨b, off, rfl, hc⟩ := hA (by intro e; subst e; simp at hu; omega)
  refine ⟨b, off + l * 6, by rw [if_neg (by omega)]; simp [addr_add], fun j hj => ?_⟩
  obtain ⟨cs, ht, hcs⟩ := hc (l + j) (by omega)
  refine ⟨cs, ?_, ?_⟩
  · rw [List.getElem_drop, List.getElem_take]; exact ht
  · rw [show off + l * 6 + j * 6 = off + (l + j) * 6 by omega]; exact hcs

theorem PolyAt.tail {h : Heap} {a : Option Addr} {cap n : Nat} {t : Term1} {p : Pol} (hp : PolyAt h (.slice a n cap) (t :: p)) (hn : n = p.length + 1) : PolyAt h (slV 6 a cap 1 n) p := by
  subst hn
  have := PolyAt.slice (p := t :: p) hp (l := 1) (u := p.length + 1) (by omega) (by simp)
  simpa using this

theorem PolyAt.cells {h : Heap} {b off cap n : Nat} {p : Pol} (hp : PolyAt h (.slice (some ⟨b, off, none⟩) n cap) p) (hne : p ≠ []) : ∃ css, TermsIn h css p ∧ CellsAt h b off css.flatten := by
  obtain ⟨a', cap', he, hcap, hA⟩ := hp
  injection he with e1 e2 e3
  obtain ⟨b', off', ha, hc⟩ := hA hne
  rw [← e1] at ha
  injection ha with ha
  injection ha with ha hb _
  subst ha hb
  have hex : ∀ (k : Nat), k ≤ p.length → ∃ css, TermsIn h css (p.take k) ∧ CellsAt h b off css.flatten := by
    intro k
    induction k with
    | zero => intro _; exact ⟨[], by simpa using TermsIn.nil h, CellsAt.mk fun j v hj => by simp at hj⟩
    | succ k ih =>
      intro hk
      obtain ⟨css, hts, hcs⟩ := ih (by omega)
      obtain ⟨cs, ht, hc1⟩ := hc k (by omega)
      refine ⟨css ++ [cs], ?_, ?_⟩
      · rw [List.take_succ_eq_append_getElem (by omega)]; exact hts.append (TermsIn.one ht)
      · refine CellsAt.mk fun j v hj => ?_
        rw [List.flatten_append] at hj
        have hl := hts.all6.len
        have hl2 : css.length = k := by rw [hts.1]; simp; omega
        by_cases hjl : j < css.flatten.length
        · rw [List.getElem?_append_left hjl] at hj; exact hcs.get j v hj
        · rw [List.getElem?_append_right (by omega)] at hj
          simp only [List.flatten_cons, List.flatten_nil, List.append_nil] at hj
          have := hc1.get _ v hj
          rw [show off + k * 6 + (j - css.flatten.length) = off + j by omega] at this
          exact this
  obtain ⟨css, hts, hcs⟩ := hex p.length (Nat.le_refl _)
  rw [List.take_length] at hts
  exact ⟨css, hts, hcs⟩

/-- append of a whole polynomial -/
theorem DRun.poly {t1 ty : TypeId} {ti : TI} (ht1 : E.ty t1 = some ti) (htd : ti.td = .slice t_checkpoly_Term) {h : Heap} {base : Nat} {v : Value} {p : Pol} (ho : OwnP h base v p) {a : Option Addr} {m c : Nat} {q : Pol} (hq : PolyAt h (.slice a m c) q) (hm : m = q.length)
    (hlen : p.length + q.length < 100000000) (hbase : base ≤ h.size) {K : Value → Heap → Prop}
    (hk : ∀ v' h', OwnP h' base v' (p ++ q) → Grown h h' v.ownBlock → U32 h h' → K v' h') :
    DRun E (Builtin.append_ #[t1, t1] ty #[v, .slice a m c]) h K := by
  subst hm
  obtain ⟨css, hts, ho⟩ := ho
  have hfin : ∀ (v' : Value) (h' : Heap) (ds : List (List Value)), TermsIn h ds q → Own h' base t_checkpoly_Term 6 v' (p.length + q.length) (css.flatten ++ ds.flatten) → Grown h h' v.ownBlock → K v' h' := by
    intro v' h' ds hds ho' hg
    have hu : U32 h h' := hg.u32 fun k hk => by
      obtain ⟨-, -, c, hc⟩ := ho.block hk
      exact ⟨c, _, _, hc, by decide⟩
    refine hk v' h' ⟨css ++ ds, (hts.append hds).u32 hu, ?_⟩ hg hu
    rw [List.length_append, List.flatten_append]; exact ho'
  cases a with
  | none =>
    obtain rfl : c = 0 := by
      obtain ⟨a', c', he, ⟨-, hz, -⟩, -⟩ := hq
      injection he with e1 _ e3
      rw [e3]; exact hz e1.symm
    have hq0 : q = [] := by
      obtain ⟨a', c', he, ⟨hle, -⟩, -⟩ := hq
      injection he with _ _ e3
      exact List.eq_nil_of_length_eq_zero (by omega)
    subst hq0
    refine DRun.intro fun w hw => ?_
    subst hw
    have h2 := (hE.tab t1 ti ht1).td
    rw [htd] at h2
    obtain ⟨i, hi, his, hib, hiz⟩ := (hE.tab t_checkpoly_Term _ rfl).info
    have hr := run_append_owned_none (P := E.P) w base t1 ty t_checkpoly_Term i 6 h2 hi v p.length css.flatten ho
    exact ⟨v, w, hr, Same.rfl, hfin v w.heap [] (TermsIn.nil _) (by simpa using ho) Grown.rfl⟩
  | some ad =>
    by_cases hne : q = []
    · subst hne
      refine DRun.intro fun w hw => ?_
      subst hw
      have h2 := (hE.tab t1 ti ht1).td
      rw [htd] at h2
      obtain ⟨i, hi, his, hib, hiz⟩ := (hE.tab t_checkpoly_Term _ rfl).info
      have hz := (hE.tab t_checkpoly_Term _ rfl).zsize
      obtain ⟨v', w', hr, ho', hg, -⟩ := run_append_own (P := E.P) w base t1 ty t_checkpoly_Term i _ 6 64 h2 hi hiz his hib hz (by decide) v p.length css.flatten ho ad 0 c [] rfl (fun j u hu => by simp at hu) (fun u hu => by simp at hu)
        (by unfold maxLen; omega) (by simp at hlen; omega) hbase
      exact ⟨v', w', hr, ⟨hg.os, hg.tape, hg.output⟩, hfin v' w'.heap [] (TermsIn.nil _) ho' ⟨hg.size, fun k hk hne => hg.block k hk hne⟩⟩
    · obtain ⟨b, off, he, -⟩ : ∃ b off, some ad = some ⟨b, off, none⟩ ∧ True := by
        obtain ⟨a', c', he, -, hA⟩ := hq
        obtain ⟨b, off, hb, -⟩ := hA hne
        injection he with e1 _ _
        exact ⟨b, off, by rw [e1, hb], trivial⟩
      injection he with he
      subst he
      obtain ⟨ds, hds, hcs⟩ := hq.cells hne
      have hl := hds.1
      refine DRun.append hE ht1 htd (e := t_checkpoly_Term) rfl ho (by decide) (b := b) (off := off) (m := q.length) (c := c) (news := ds.flatten) (by rw [hds.all6.len, hl]) hcs (fun u hu => ?_) (by omega) ?_ hbase ?_
      · obtain ⟨cs, hcs1, hcs2⟩ := List.mem_flatten.1 hu
        obtain ⟨j, hj, rfl⟩ := List.getElem_of_mem hcs1
        exact List.all_eq_true.1 (hds.2 j hj (by omega)).ones u hcs2
      · show (p.length + q.length) * 64 ≤ _; omega
      · intro v' h' ho' hg _
        exact hfin v' h' ds hds ho' hg

/-- what a sum is -/
structure IsSum (f g q : Pol) : Prop where
  canon : Canon q
  cf : ∀ e, Vc.cf q e = Vc.cf f e + Vc.cf g e
  norm : norm1 q ≤ norm1 f + norm1 g
  len : q.length ≤ f.length + g.length

theorem cf_cons (t : Term1) (p : Pol) (e : List Nat) : cf (t :: p) e = (if t.2 = e then t.1 else 0) + cf p e := rfl
theorem norm1_cons (t : Term1) (p : Pol) : norm1 (t :: p) = t.1.natAbs + norm1 p := rfl
theorem Canon.head_desc {t : Term1} {p : Pol} (h : Canon (t :: p)) : ∀ s ∈ p, cmpE t.2 s.2 = 1 := (List.pairwise_cons.1 h.desc).1

theorem canon_append {r f : Pol} (hr : Canon r) (hf : Canon f) (h : ∀ t ∈ r, ∀ u ∈ f, cmpE t.2 u.2 = 1) : Canon (r ++ f) := by
  refine ⟨List.pairwise_append.2 ⟨hr.desc, hf.desc, h⟩, fun t ht => ?_, fun t ht => ?_⟩
  · rcases List.mem_append.1 ht with ht | ht
    · exact hr.nz t ht
    · exact hf.nz t ht
  · rcases List.mem_append.1 ht with ht | ht
    · exact hr.l4 t ht
    · exact hf.l4 t ht

structure AddSt where
  vf : Value
  f : Pol
  vg : Value
  g : Pol
  rv : Value
  r : Pol

/-- where the sum stands -/
structure AddInv (h : Heap) (f g : Pol) (s : AddSt) (h' : Heap) : Prop where
  ext : Ext h h'
  pf : PolyAt h s.vf s.f
  pg : PolyAt h s.vg s.g
  own : OwnP h' h.size s.rv s.r
  cf : Canon s.f
  cg : Canon s.g
  cr : Canon s.r
  rf : ∀ t ∈ s.r, ∀ u ∈ s.f, cmpE t.2 u.2 = 1
  rg : ∀ t ∈ s.r, ∀ u ∈ s.g, cmpE t.2 u.2 = 1
  sum : ∀ e, Vc.cf s.r e + Vc.cf s.f e + Vc.cf s.g e = Vc.cf f e + Vc.cf g e
  norm : norm1 s.r + norm1 s.f + norm1 s.g ≤ norm1 f + norm1 g
  len : s.r.length + s.f.length + s.g.length ≤ f.length + g.length

theorem AddInv.fin {h : Heap} {f g : Pol} {s : AddSt} {h' : Heap} (i : AddInv h f g s h') (he : s.f = [] ∨ s.g = []) : IsSum f g (s.r ++ s.f ++ s.g) := by
  refine ⟨?_, fun e => ?_, ?_, ?_⟩
  · rcases he with he | he
    · rw [he, List.append_nil]; exact canon_append i.cr i.cg i.rg
    · rw [he, List.append_nil]; exact canon_append i.cr i.cf i.rf
  · rw [cf_append, cf_append]; exact i.sum e
  · rw [norm1_append, norm1_append]; exact i.norm
  · simp only [List.length_append]; exact i.len

theorem cmpE_below {a b c : Term1} (ha : a.2.length = 4) (hb : b.2.length = 4) (hc : c.2.length = 4) (h1 : cmpE a.2 b.2 = 1) (h2 : cmpE b.2 c.2 = 1) : cmpE a.2 c.2 = 1 := cmpE_trans1 (by omega) (by omega) h1 (by omega)

/-- the first term of the first goes over -/
theorem AddInv.left {h h' h'' : Heap} {f g p q r : Pol} {t u : Term1} {vf vf' vg rv rv' : Value} (i : AddInv h f g ⟨vf, t :: p, vg, u :: q, rv, r⟩ h') (hx : Ext h h'') (pf : PolyAt h vf' p) (own : OwnP h'' h.size rv' (r ++ [t])) (hlt : cmpE t.2 u.2 = 1) : AddInv h f g ⟨vf', p, vg, u :: q, rv', r ++ [t]⟩ h'' := by
  obtain ⟨-, -, hpg, -, hcf, hcg, hcr, hrf, hrg, hsum, hnorm, hlen⟩ := i
  have l4t := hcf.l4 t List.mem_cons_self
  refine ⟨hx, pf, hpg, own, hcf.tail, hcg, hcr.append_one (hcf.nz t List.mem_cons_self) l4t fun s hs => hrf s hs t List.mem_cons_self, ?_, ?_, fun e => ?_, ?_, ?_⟩
  · intro s hs w hw
    rcases List.mem_append.1 hs with hs | hs
    · exact hrf s hs w (List.mem_cons_of_mem _ hw)
    · rw [List.mem_singleton] at hs; subst hs; exact hcf.head_desc w hw
  · intro s hs w hw
    rcases List.mem_append.1 hs with hs | hs
    · exact hrg s hs w hw
    · rw [List.mem_singleton] at hs; subst hs
      rcases List.mem_cons.1 hw with rfl | hw
      · exact hlt
      · exact cmpE_below l4t (hcg.l4 u List.mem_cons_self) (hcg.l4 w (List.mem_cons_of_mem _ hw)) hlt (hcg.head_desc w hw)
  · have := hsum e
    simp only [Vc.cf, cf_append] at this ⊢
    omega
  · simp only [norm1, norm1_append] at hnorm ⊢; omega
  · simp only [List.length_append, List.length_cons, List.length_nil] at hlen ⊢; omega

theorem AddInv.swap {h h' : Heap} {f g p q r : Pol} {vf vg rv : Value} (i : AddInv h f g ⟨vf, p, vg, q, rv, r⟩ h') : AddInv h g f ⟨vg, q, vf, p, rv, r⟩ h' := by
  obtain ⟨hx, hpf, hpg, ho, hcf, hcg, hcr, hrf, hrg, hsum, hnorm, hlen⟩ := i
  dsimp only at *
  refine ⟨hx, hpg, hpf, ho, hcg, hcf, hcr, hrg, hrf, fun e => ?_, ?_, ?_⟩
  · have := hsum e; dsimp only; omega
  · dsimp only; omega
  · dsimp only; omega

/-- the first terms of both make one -/
theorem AddInv.both {h h' h'' : Heap} {f g p q r : Pol} {t u : Term1} {vf vf' vg vg' rv rv' : Value} (i : AddInv h f g ⟨vf, t :: p, vg, u :: q, rv, r⟩ h') (hx : Ext h h'') (pf : PolyAt h vf' p) (pg : PolyAt h vg' q) (heq : t.2 = u.2) (hz : t.1 + u.1 ≠ 0) (own : OwnP h'' h.size rv' (r ++ [(t.1 + u.1, t.2)])) : AddInv h f g ⟨vf', p, vg', q, rv', r ++ [(t.1 + u.1, t.2)]⟩ h'' := by
  obtain ⟨-, -, hpg, -, hcf, hcg, hcr, hrf, hrg, hsum, hnorm, hlen⟩ := i
  have l4t := hcf.l4 t List.mem_cons_self
  refine ⟨hx, pf, pg, own, hcf.tail, hcg.tail, hcr.append_one hz l4t fun s hs => hrf s hs t List.mem_cons_self, ?_, ?_, fun e => ?_, ?_, ?_⟩
  · intro s hs w hw
    rcases List.mem_append.1 hs with hs | hs
    · exact hrf s hs w (List.mem_cons_of_mem _ hw)
    · rw [List.mem_singleton] at hs; subst hs; exact hcf.head_desc w hw
  · intro s hs w hw
    rcases List.mem_append.1 hs with hs | hs
    · exact hrg s hs w (List.mem_cons_of_mem _ hw)
    · rw [List.mem_singleton] at hs; subst hs
      dsimp only
      rw [heq]; exact hcg.head_desc w hw
  · have := hsum e
    simp only [Vc.cf, cf_append] at this ⊢
    rw [← heq] at this
    by_cases he : t.2 = e
    · simp only [if_pos he] at this ⊢; omega
    · simp only [if_neg he] at this ⊢; omega
  · simp only [norm1, norm1_append] at hnorm ⊢; omega
  · simp only [List.length_append, List.length_cons, List.length_nil] at hlen ⊢; omega
theorem AddInv.gone {h h' h'' : Heap} {f g p q r : Pol} {t u : Term1} {vf vf' vg vg' rv : Value} (i : AddInv h f g ⟨vf, t :: p, vg, u :: q, rv, r⟩ h') (hx : Ext h h'') (pf : PolyAt h vf' p) (pg : PolyAt h vg' q) (heq : t.2 = u.2) (hz : t.1 + u.1 = 0) (own : OwnP h'' h.size rv r) : AddInv h f g ⟨vf', p, vg', q, rv, r⟩ h'' := by
  obtain ⟨-, -, hpg, -, hcf, hcg, hcr, hrf, hrg, hsum, hnorm, hlen⟩ := i
  refine ⟨hx, pf, pg, own, hcf.tail, hcg.tail, hcr, fun s hs w hw => hrf s hs w (List.mem_cons_of_mem _ hw), fun s hs w hw => hrg s hs w (List.mem_cons_of_mem _ hw), fun e => ?_, ?_, ?_⟩
  · have := hsum e
    simp only [Vc.cf] at this ⊢
    rw [← heq] at this
    by_cases he : t.2 = e
    · simp only [if_pos he] at this ⊢; omega
    · simp only [if_neg he] at this ⊢; omega
  · simp only [norm1] at hnorm ⊢; omega
  · simp only [List.length_cons] at hlen ⊢; omega

set_option maxHeartbeats 3200000 in
theorem add_own (h : Heap) (v1 v2 : Value) (f g : Pol) (hf : PolyAt h v1 f) (hg : PolyAt h v2 g) (hcf : Canon f) (hcg : Canon g) (hb : norm1 f + norm1 g < huge) (hlen : f.length + g.length < 100000000) :
    Spec E.P f_checkpoly_add #[v1, v2] h (fun v' h' => Ext h h' ∧ ∃ q, PolyAt h' v' q ∧ IsSum f g q ∧ (OwnP h' h.size v' q ∨ v' = v1 ∨ v' = v2)) := by
  have hf0 := hf
  have hg0 := hg
  obtain ⟨a, cap, rfl, hcap, hfA⟩ := hf
  obtain ⟨b, cap2, rfl, hcap2, hgA⟩ := hg
  refine Spec.intro hE (args := [_, _]) F_checkpoly_add rfl rfl (Nat.le_of_ble_eq_true rfl) ?_
  refine bsp.dec (p := (f.length : Int) = 0) (fun hz => ?_) (fun hz => ?_)
  · have hf1 : f = [] := List.eq_nil_of_length_eq_zero (by omega)
    subst hf1
    exact ⟨Ext.rfl, g, hg0, ⟨hcg, fun e => by simp [Vc.cf], by simp [norm1], by simp⟩, .inr (.inr rfl)⟩
  refine bsp.dec (p := (g.length : Int) = 0) (fun hz2 => ?_) (fun hz2 => ?_)
  · have hg1 : g = [] := List.eq_nil_of_length_eq_zero (by omega)
    subst hg1
    exact ⟨Ext.rfl, f, hf0, ⟨hcf, fun e => by simp [Vc.cf], by simp [norm1], by simp⟩, .inr (.inl rfl)⟩
  refine DWrap.is ((f.length + g.length : Nat) : Int) (by omega) (by omega) ?_
  refine DMake.intro 0 (f.length + g.length) rfl rfl (Nat.zero_le _) (by omega) (by omega) ?_
  intro lb h1 hlb hx1 hs1 hg1
  have ho1 : OwnP h1 h.size (.slice (some ⟨lb, 0, none⟩) 0 (f.length + g.length)) [] := by
    refine ⟨[], TermsIn.nil _, ?_⟩
    have := Own.made (n := 0) (cap := f.length + g.length) (size := 6) (base := h.size) (by omega) hg1 (Nat.zero_le _) (by omega) (by rw [List.length_flatten]; simp; rfl)
    simpa using this
  refine DLoop.intro hE (ι := AddSt) (fun s => [(0, s.vf), (1, s.vg), (5, s.rv)]) (AddInv h f g) (fun s => s.f.length + s.g.length) ⟨_, f, _, g, .slice (some ⟨lb, 0, none⟩) 0 (f.length + g.length), []⟩ rfl ⟨rfl, rfl, rfl, trivial⟩
    ⟨hx1, hf0, hg0, ho1, hcf, hcg, Canon.nil, fun t ht => (List.not_mem_nil ht).elim, fun t ht => (List.not_mem_nil ht).elim, fun e => by simp [Vc.cf], by simp [norm1], by simp⟩ ?_
  clear ho1 hg1 hs1 hx1 hlb h1 lb hz hz2 hfA hgA hcap hcap2 hf0 hg0 hcf hcg
  rintro ⟨vf, p, vg, q, rv, r⟩ h2 hi
  have hpf := hi.pf
  have hpg := hi.pg
  have ho := hi.own
  have hx2 := hi.ext
  have hlr := hi.len
  have hnr := hi.norm
  dsimp only at hpf hpg ho hlr hnr ⊢
  have hpf0 := hpf
  have hpg0 := hpg
  obtain ⟨fa, fcap, rfl, ⟨hfc, -⟩, hfA⟩ := hpf
  obtain ⟨ga, gcap, rfl, ⟨hgc, -⟩, hgA⟩ := hpg
  have hB2 : h.size ≤ h2.size := hx2.size
  refine bsp.dec (p := (p.length : Int) > 0) (fun hp0 => ?_) (fun hp0 => ?_)
  · refine bsp.dec (p := (q.length : Int) > 0) (fun hq0 => ?_) (fun hq0 => ?_)
    · obtain ⟨t, p', rfl⟩ : ∃ t p', p = t :: p' := by
        cases p with
        | nil => simp at hp0
        | cons t p' => exact ⟨t, p', rfl⟩
      obtain ⟨u, q', rfl⟩ : ∃ u q', q = u :: q' := by
        cases q with
        | nil => simp at hq0
        | cons t p' => exact ⟨t, p', rfl⟩
      have hpt := hpf0.tail (by simp)
      have hqt := hpg0.tail (by simp)
      obtain ⟨b1, o1, rfl, hc1⟩ := hfA (by simp)
      obtain ⟨cs1, ht1, hcs1⟩ := hc1 0 (by simp)
      obtain ⟨b2, o2, rfl, hc2⟩ := hgA (by simp)
      obtain ⟨cs2, ht2, hcs2⟩ := hc2 0 (by simp)
      simp only [List.getElem_cons_zero, Nat.zero_mul, Nat.add_zero] at ht1 hcs1 ht2 hcs2
      refine DDraw.intro hE (.take 0 (.take 1 (.take 2 (.take 4 (.take 5 (.take 6 (.take 3 (.take 7 (.one 8 (.take 9 .done)))))))))) none (Ext h ·) (by kernel_rfl) hx2 ?_
      refine DIdx.intro 0 rfl rfl (by simp) ?_
      refine DIdx.intro 0 rfl rfl (by simp) ?_
      refine QLoad.agg (expV t.2) (by rw [expV_len]; exact ht1.1) (fun _ e => (ht1.exps hcs1).ext e) ?_
      refine QLoad.agg (expV u.2) (by rw [expV_len]; exact ht2.1) (fun _ e => (ht2.exps hcs2).ext e) ?_
      refine (compareExp_any h2 _ _ ht1.1 ht2.1).mono ?_
      rintro _ h3 ⟨hx23, rfl⟩
      have hx3 := hx2.trans hx23
      have ho3 := ho.ext hx23
      have hB3 : h.size ≤ h3.size := hx3.size
      have hval := cmpE_val t.2 u.2
      refine ⟨hx3, ?_⟩
      refine bsp.dec (p := cmpE t.2 u.2 > 0) (fun hgt => ?_) (fun hgt => ?_)
      · refine DDraw.intro hE (.take 0 (.take 1 (.take 2 (.take 6 (.take 7 (.take 3 (.one 4 (.one 5 (.take 8 (.take 9 .done)))))))))) none (Ext h ·) (by kernel_rfl) hx3 ?_
        refine DIdx.intro 0 rfl rfl (by simp) ?_
        refine DSlice.intro 1 (t :: p').length rfl rfl (by simp) (by omega) ?_
        refine QLoad.agg cs1 ht1.len (fun _ e => hcs1.ext e) ?_
        have htx := ht1.ext hx3
        obtain ⟨aa, cc, e0, e1, e2, e3, he, hce, -⟩ := htx.form
        subst hce
        refine ⟨⟨rfl, by decide, rfl, rfl, trivial⟩, ?_⟩
        refine DNew.intro ?_
        intro nb h4 hnb hx4 hs4 hg4
        refine ⟨hx3.trans hx4, ?_⟩
        refine DRun.term (ti := ⟨.slice t_checkpoly_Term, 1, 24, .slice none 0 0⟩) rfl rfl (ho3.ext hx4) hg4 (htx.ext hx4) (by omega) (Nat.le_trans hB3 hx4.size) ?_
        intro v5 h5 ho5 hgr5 hu5
        have hx5 : Ext h h5 := ((Old.rfl (B := h.size).ext (hx3.trans hx4) (Nat.le_refl _)).grown hgr5 (Nat.le_refl _) fun k hk => (ho3.block hk).1).toExt
        refine ⟨hx5, ?_⟩
        exact ⟨⟨slV 6 (some ⟨b1, o1, none⟩) fcap 1 (t :: p').length, p', _, u :: q', v5, r ++ [t]⟩, ⟨rfl, rfl, rfl, trivial⟩, hi.left hx5 hpt ho5 (by omega), by simp⟩
      refine bsp.dec (p := cmpE t.2 u.2 < 0) (fun hlt => ?_) (fun hlt => ?_)
      · refine DDraw.intro hE (.take 0 (.take 1 (.take 2 (.take 6 (.take 7 (.take 3 (.one 4 (.one 5 (.take 8 (.take 9 .done)))))))))) none (Ext h ·) (by kernel_rfl) hx3 ?_
        refine DIdx.intro 0 rfl rfl (by simp) ?_
        refine DSlice.intro 1 (u :: q').length rfl rfl (by simp) (by omega) ?_
        refine QLoad.agg cs2 ht2.len (fun _ e => hcs2.ext e) ?_
        have htx := ht2.ext hx3
        obtain ⟨aa, cc, e0, e1, e2, e3, he, hce, -⟩ := htx.form
        subst hce
        refine ⟨⟨rfl, by decide, rfl, rfl, trivial⟩, ?_⟩
        refine DNew.intro ?_
        intro nb h4 hnb hx4 hs4 hg4
        refine ⟨hx3.trans hx4, ?_⟩
        refine DRun.term (ti := ⟨.slice t_checkpoly_Term, 1, 24, .slice none 0 0⟩) rfl rfl (ho3.ext hx4) hg4 (htx.ext hx4) (by omega) (Nat.le_trans hB3 hx4.size) ?_
        intro v5 h5 ho5 hgr5 hu5
        have hx5 : Ext h h5 := ((Old.rfl (B := h.size).ext (hx3.trans hx4) (Nat.le_refl _)).grown hgr5 (Nat.le_refl _) fun k hk => (ho3.block hk).1).toExt
        refine ⟨hx5, ?_⟩
        exact ⟨⟨_, t :: p', slV 6 (some ⟨b2, o2, none⟩) gcap 1 (u :: q').length, q', v5, r ++ [u]⟩, ⟨rfl, rfl, rfl, trivial⟩, (hi.swap.left hx5 hqt ho5 (by have := cmpE_swap t.2 u.2; omega)).swap, by simp⟩
      have heq : t.2 = u.2 := (cmpE_zero (by rw [ht1.1, ht2.1])).1 (by omega)
      simp only [norm1] at hnr
      have hsb : (t.1 + u.1).natAbs < huge := by omega
      obtain ⟨cv1, hcv1, hlv1, hiv1⟩ := ht1.coef hcs1
      obtain ⟨cv2, hcv2, hlv2, hiv2⟩ := ht2.coef hcs2
      have hd1 : (digs t.1.natAbs).length ≤ 256 := digs_huge (by omega)
      have hd2 : (digs u.1.natAbs).length ≤ 256 := digs_huge (by omega)
      refine DJoin.split hE rfl ?_
      refine DDraw.intro hE (.take 0 (.take 1 (.take 2 (.take 4 (.take 5 (.take 6 (.take 3 (.take 7 (.two 8 9 (.one 9 (.one 10 .done)) (.one 8 (.one 10 .done)))))))))))  (some 10) (Ext h ·) (by kernel_rfl) hx3 ?_
      refine DIdx.intro 0 rfl rfl (by simp) ?_
      refine DIdx.intro 0 rfl rfl (by simp) ?_
      refine QLoad.agg cv1 hlv1 (fun _ e => hcv1.ext e) ?_
      refine QLoad.agg cv2 hlv2 (fun _ e => hcv2.ext e) ?_
      refine ⟨?_, ?_⟩
      · refine (integer_Add_any h3 _ _ _ _ (hiv1.ext hx3) (hiv2.ext hx3) (by omega) (by omega)).mono ?_
        rintro v4 h4 ⟨hx4, hi4⟩
        refine ⟨hx3.trans hx4, ?_⟩
        refine DNew.intro ?_
        intro tb h5 htb hx5 hs5 hgB
        refine ⟨hx3.trans (hx4.trans hx5), ?_⟩
        have hxA := hx4.trans hx5
        have hBtb : h3.size ≤ tb := by have := hx4.size; omega
        have hi5 := hi4.ext hx5
        obtain ⟨a5, cap5, rfl, -⟩ := hi4
        · refine DStore.result hgB (by decide) rfl rfl hxA hBtb hi5 ?_
          intro h6 hx6 hi6 hw6
          have hx36 : Ext h3 h6 := hx6
          have hx06 := hx3.trans hx36
          refine DLoad.agg _ rfl hw6.cellsAt ?_
          refine (Sign_any h6 _ _ hi6 (by have := digs_huge hsb; omega)).mono ?_
          rintro _ h7 ⟨hx7, rfl⟩
          have hx07 := hx06.trans hx7
          have hw7 := hw6.ext hx7
          have hi7 := hi6.ext hx7
          have ho7 := ho3.ext (hx36.trans hx7)
          refine bsp.intro (fun hnz => ?_) (fun hz => ?_)
          · have hnz' : t.1 + u.1 ≠ 0 := fun e => by rw [e] at hnz; simp [cmpI] at hnz
            refine DDraw.intro hE (.take 0 (.take 2 (.take 3 (.take 4 (.take 1 (.take 5 (.take 6 (.one 7 (.one 8 (.take 9 .done)))))))))) none (fun hh => Ext h hh ∧ Whole hh tb t_integer_Int [.bool (decide (t.1 + u.1 < 0)), .slice a5 (digs (t.1 + u.1).natAbs).length cap5]) (by kernel_rfl) ⟨hx07, hw7⟩ ?_
            refine DIdx.intro 0 rfl rfl (by simp) ?_
            refine QLoad.agg _ rfl (fun _ e => e.2.cellsAt) ?_
            refine QLoad.agg (expV t.2) (by rw [expV_len]; exact ht1.1) (fun _ e => (ht1.exps hcs1).ext e.1) ?_
            obtain ⟨e0, e1, e2, e3, he⟩ := four ht1.1
            have ht8 : TermAt h7 [.bool (decide (t.1 + u.1 < 0)), .slice a5 (digs (t.1 + u.1).natAbs).length cap5, .int .i64 (e0 : Nat), .int .i64 (e1 : Nat), .int .i64 (e2 : Nat), .int .i64 (e3 : Nat)] (t.1 + u.1, t.2) := ⟨ht1.1, _, _, by rw [he]; rfl, hi7⟩
            rw [he]
            refine DPure.build [.bool (decide (t.1 + u.1 < 0)), .slice a5 (digs (t.1 + u.1).natAbs).length cap5, .int .i64 (e0 : Nat), .int .i64 (e1 : Nat), .int .i64 (e2 : Nat), .int .i64 (e3 : Nat)] (by kernel_rfl) ?_
            refine ⟨⟨rfl, by decide, rfl, rfl, trivial⟩, ?_⟩
            refine DNew.intro ?_
            intro nb h8 hnb hx8 hs8 hg8
            refine ⟨⟨hx07.trans hx8, hw7.ext hx8⟩, ?_⟩
            refine DRun.term (ti := ⟨.slice t_checkpoly_Term, 1, 24, .slice none 0 0⟩) rfl rfl (ho7.ext hx8) hg8 (ht8.ext hx8) (by omega) (hx07.trans hx8).size ?_
            intro v9 h9 ho9 hgr9 hu9
            have hx9 : Ext h h9 := ((Old.rfl (B := h.size).ext (hx07.trans hx8) (Nat.le_refl _)).grown hgr9 (Nat.le_refl _) fun k hk => (ho3.block hk).1).toExt
            refine ⟨⟨hx9, hgr9.at (hw7.ext hx8) fun e => by have := (ho3.block e.symm).2.1; omega⟩, ?_⟩
            refine DDraw.intro hE (.take 0 (.take 1 (.take 2 (.take 3 (.take 4 (.take 5 .done)))))) none (fun _ => True) (by kernel_rfl) trivial ?_
            refine DSlice.intro 1 (t :: p').length rfl rfl (by simp) (by omega) ?_
            refine DSlice.intro 1 (u :: q').length rfl rfl (by simp) (by omega) ?_
            exact ⟨⟨slV 6 (some ⟨b1, o1, none⟩) fcap 1 (t :: p').length, p', slV 6 (some ⟨b2, o2, none⟩) gcap 1 (u :: q').length, q', v9, r ++ [(t.1 + u.1, t.2)]⟩, ⟨rfl, rfl, rfl, trivial⟩, hi.both hx9 hpt hqt heq hnz' ho9, by simp; omega⟩
          · have hz' : t.1 + u.1 = 0 := cmpI_zero.1 (by simpa using hz)
            refine DDraw.intro hE (.take 0 (.take 1 (.take 2 (.take 3 (.take 4 (.take 5 .done)))))) none (fun _ => True) (by kernel_rfl) trivial ?_
            refine DSlice.intro 1 (t :: p').length rfl rfl (by simp) (by omega) ?_
            refine DSlice.intro 1 (u :: q').length rfl rfl (by simp) (by omega) ?_
            exact ⟨⟨slV 6 (some ⟨b1, o1, none⟩) fcap 1 (t :: p').length, p', slV 6 (some ⟨b2, o2, none⟩) gcap 1 (u :: q').length, q', rv, r⟩, ⟨rfl, rfl, rfl, trivial⟩, hi.gone hx07 hpt hqt heq hz' ho7, by simp; omega⟩
      · refine DNew.intro ?_
        intro tb h4 htb hx4 hs4 hgA0
        refine ⟨hx3.trans hx4, ?_⟩
        refine (integer_Add_any h4 _ _ _ _ (hiv1.ext (hx3.trans hx4)) (hiv2.ext (hx3.trans hx4)) (by omega) (by omega)).mono ?_
        rintro v5 h5 ⟨hx5, hi5⟩
        refine ⟨hx3.trans (hx4.trans hx5), ?_⟩
        have hgB := hx5.at hgA0
        have hxA := hx4.trans hx5
        have hBtb : h3.size ≤ tb := by omega
        have hi50 := hi5
        obtain ⟨a5, cap5, rfl, -⟩ := hi50
        · refine DStore.result hgB (by decide) rfl rfl hxA hBtb hi5 ?_
          intro h6 hx6 hi6 hw6
          have hx36 : Ext h3 h6 := hx6
          have hx06 := hx3.trans hx36
          refine DLoad.agg _ rfl hw6.cellsAt ?_
          refine (Sign_any h6 _ _ hi6 (by have := digs_huge hsb; omega)).mono ?_
          rintro _ h7 ⟨hx7, rfl⟩
          have hx07 := hx06.trans hx7
          have hw7 := hw6.ext hx7
          have hi7 := hi6.ext hx7
          have ho7 := ho3.ext (hx36.trans hx7)
          refine bsp.intro (fun hnz => ?_) (fun hz => ?_)
          · have hnz' : t.1 + u.1 ≠ 0 := fun e => by rw [e] at hnz; simp [cmpI] at hnz
            refine DDraw.intro hE (.take 0 (.take 2 (.take 3 (.take 4 (.take 1 (.take 5 (.take 6 (.one 7 (.one 8 (.take 9 .done)))))))))) none (fun hh => Ext h hh ∧ Whole hh tb t_integer_Int [.bool (decide (t.1 + u.1 < 0)), .slice a5 (digs (t.1 + u.1).natAbs).length cap5]) (by kernel_rfl) ⟨hx07, hw7⟩ ?_
            refine DIdx.intro 0 rfl rfl (by simp) ?_
            refine QLoad.agg _ rfl (fun _ e => e.2.cellsAt) ?_
            refine QLoad.agg (expV t.2) (by rw [expV_len]; exact ht1.1) (fun _ e => (ht1.exps hcs1).ext e.1) ?_
            obtain ⟨e0, e1, e2, e3, he⟩ := four ht1.1
            have ht8 : TermAt h7 [.bool (decide (t.1 + u.1 < 0)), .slice a5 (digs (t.1 + u.1).natAbs).length cap5, .int .i64 (e0 : Nat), .int .i64 (e1 : Nat), .int .i64 (e2 : Nat), .int .i64 (e3 : Nat)] (t.1 + u.1, t.2) := ⟨ht1.1, _, _, by rw [he]; rfl, hi7⟩
            rw [he]
            refine DPure.build [.bool (decide (t.1 + u.1 < 0)), .slice a5 (digs (t.1 + u.1).natAbs).length cap5, .int .i64 (e0 : Nat), .int .i64 (e1 : Nat), .int .i64 (e2 : Nat), .int .i64 (e3 : Nat)] (by kernel_rfl) ?_
            refine ⟨⟨rfl, by decide, rfl, rfl, trivial⟩, ?_⟩
            refine DNew.intro ?_
            intro nb h8 hnb hx8 hs8 hg8
            refine ⟨⟨hx07.trans hx8, hw7.ext hx8⟩, ?_⟩
            refine DRun.term (ti := ⟨.slice t_checkpoly_Term, 1, 24, .slice none 0 0⟩) rfl rfl (ho7.ext hx8) hg8 (ht8.ext hx8) (by omega) (hx07.trans hx8).size ?_
            intro v9 h9 ho9 hgr9 hu9
            have hx9 : Ext h h9 := ((Old.rfl (B := h.size).ext (hx07.trans hx8) (Nat.le_refl _)).grown hgr9 (Nat.le_refl _) fun k hk => (ho3.block hk).1).toExt
            refine ⟨⟨hx9, hgr9.at (hw7.ext hx8) fun e => by have := (ho3.block e.symm).2.1; omega⟩, ?_⟩
            refine DDraw.intro hE (.take 0 (.take 1 (.take 2 (.take 3 (.take 4 (.take 5 .done)))))) none (fun _ => True) (by kernel_rfl) trivial ?_
            refine DSlice.intro 1 (t :: p').length rfl rfl (by simp) (by omega) ?_
            refine DSlice.intro 1 (u :: q').length rfl rfl (by simp) (by omega) ?_
            exact ⟨⟨slV 6 (some ⟨b1, o1, none⟩) fcap 1 (t :: p').length, p', slV 6 (some ⟨b2, o2, none⟩) gcap 1 (u :: q').length, q', v9, r ++ [(t.1 + u.1, t.2)]⟩, ⟨rfl, rfl, rfl, trivial⟩, hi.both hx9 hpt hqt heq hnz' ho9, by simp; omega⟩
          · have hz' : t.1 + u.1 = 0 := cmpI_zero.1 (by simpa using hz)
            refine DDraw.intro hE (.take 0 (.take 1 (.take 2 (.take 3 (.take 4 (.take 5 .done)))))) none (fun _ => True) (by kernel_rfl) trivial ?_
            refine DSlice.intro 1 (t :: p').length rfl rfl (by simp) (by omega) ?_
            refine DSlice.intro 1 (u :: q').length rfl rfl (by simp) (by omega) ?_
            exact ⟨⟨slV 6 (some ⟨b1, o1, none⟩) fcap 1 (t :: p').length, p', slV 6 (some ⟨b2, o2, none⟩) gcap 1 (u :: q').length, q', rv, r⟩, ⟨rfl, rfl, rfl, trivial⟩, hi.gone hx07 hpt hqt heq hz' ho7, by simp; omega⟩
    · have hfin := hi.fin (.inr (List.eq_nil_of_length_eq_zero (by show q.length = 0; omega)))
      refine DRun.poly (ti := ⟨.slice t_checkpoly_Term, 1, 24, .slice none 0 0⟩) rfl rfl ho (hpf0.ext hx2) rfl (by omega) hB2 ?_
      intro v3 h3 ho3 hgr3 hu3
      have hx3 : Ext h h3 := ((Old.rfl (B := h.size).ext hx2 (Nat.le_refl _)).grown hgr3 (Nat.le_refl _) fun k hk => (ho.block hk).1).toExt
      refine DRun.poly (ti := ⟨.slice t_checkpoly_Term, 1, 24, .slice none 0 0⟩) rfl rfl ho3 (hpg0.ext hx3) rfl (by simp; omega) hx3.size ?_
      intro v4 h4 ho4 hgr4 hu4
      have hx4 : Ext h h4 := ((Old.rfl (B := h.size).ext hx3 (Nat.le_refl _)).grown hgr4 (Nat.le_refl _) fun k hk => (ho3.block hk).1).toExt
      exact ⟨hx4, _, ho4.poly, hfin, .inl ho4⟩
  · have hfin := hi.fin (.inl (List.eq_nil_of_length_eq_zero (by show p.length = 0; omega)))
    refine DRun.poly (ti := ⟨.slice t_checkpoly_Term, 1, 24, .slice none 0 0⟩) rfl rfl ho (hpf0.ext hx2) rfl (by omega) hB2 ?_
    intro v3 h3 ho3 hgr3 hu3
    have hx3 : Ext h h3 := ((Old.rfl (B := h.size).ext hx2 (Nat.le_refl _)).grown hgr3 (Nat.le_refl _) fun k hk => (ho.block hk).1).toExt
    refine DRun.poly (ti := ⟨.slice t_checkpoly_Term, 1, 24, .slice none 0 0⟩) rfl rfl ho3 (hpg0.ext hx3) rfl (by simp; omega) hx3.size ?_
    intro v4 h4 ho4 hgr4 hu4
    have hx4 : Ext h h4 := ((Old.rfl (B := h.size).ext hx3 (Nat.le_refl _)).grown hgr4 (Nat.le_refl _) fun k hk => (ho3.block hk).1).toExt
    exact ⟨hx4, _, ho4.poly, hfin, .inl ho4⟩

theorem add_huge (h : Heap) (v1 v2 : Value) (f g : Pol) (hf : PolyAt h v1 f) (hg : PolyAt h v2 g) (hcf : Canon f) (hcg : Canon g) (hb : norm1 f + norm1 g < huge) (hlen : f.length + g.length < 100000000) :
    Spec E.P f_checkpoly_add #[v1, v2] h (fun v' h' => Ext h h' ∧ ∃ q, PolyAt h' v' q ∧ IsSum f g q) :=
  (add_own h v1 v2 f g hf hg hcf hcg hb hlen).mono fun _ _ ⟨hx, q, hp, hs, _⟩ => ⟨hx, q, hp, hs⟩

theorem add_any (h : Heap) (v1 v2 : Value) (f g : Pol) (hf : PolyAt h v1 f) (hg : PolyAt h v2 g) (hcf : Canon f) (hcg : Canon g) (hb : norm1 f + norm1 g < big) (hlen : f.length + g.length < 100000000) :
    Spec E.P f_checkpoly_add #[v1, v2] h (fun v' h' => Ext h h' ∧ ∃ q, PolyAt h' v' q ∧ IsSum f g q) := 
  add_huge h v1 v2 f g hf hg hcf hcg (Nat.lt_trans hb big_huge) hlen
end Go.Vc
