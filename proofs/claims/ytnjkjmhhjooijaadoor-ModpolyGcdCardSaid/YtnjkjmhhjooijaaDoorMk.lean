/- modpoly: separator, equalDegree, byDegree. -/
import Derived.Test.YtnjkjmhhjooijaaDoorMj
namespace Go.Vc
open Go.Proofs

theorem trialF_can {p : Nat} (hp : 2 ≤ p) : ∀ k n, n ≤ k → Can p (trialF p k n) ∧ (n ≠ 0 → trialF p k n ≠ [])
  | 0, n, h => ⟨Can.nil p, fun hn => absurd (by omega) hn⟩
  | k + 1, n, h => by
    by_cases hn : n = 0
    · rw [trialF_snoc, if_pos (.inr hn)]
      exact ⟨Can.nil p, fun h => absurd hn h⟩
    · have hdiv : n / p < n := Nat.div_lt_self (by omega) hp
      have ih := trialF_can hp k (n / p) (by omega)
      rw [trialF_snoc, if_neg (by omega)]
      refine ⟨⟨fun d hd => ?_, fun _ => ?_⟩, fun _ => by simp⟩
      · rcases List.mem_cons.1 hd with rfl | hd
        · exact Nat.mod_lt _ (by omega)
        · exact ih.1.lt d hd
      · show co (n % p :: trialF p k (n / p)) ((n % p :: trialF p k (n / p)).length - 1) ≠ 0
        by_cases h0 : n / p = 0
        · rw [h0, trialF_snoc, if_pos (.inr rfl)]
          show n % p ≠ 0
          have := Nat.div_add_mod n p
          rw [h0, Nat.mul_zero] at this
          omega
        · have hne := ih.2 h0
          have hl : (trialF p k (n / p)).length ≠ 0 := fun e => hne (List.eq_nil_of_length_eq_zero e)
          have := ih.1.lead hl
          rw [List.length_cons, Nat.add_sub_cancel]
          obtain ⟨m, hm⟩ : ∃ m, (trialF p k (n / p)).length = m + 1 := ⟨(trialF p k (n / p)).length - 1, by omega⟩
          rw [hm] at this ⊢
          rw [Nat.add_sub_cancel] at this
          have e : co (n % p :: trialF p k (n / p)) (m + 1) = co (trialF p k (n / p)) m := rfl
          rw [e]; exact this
theorem trialM_can {p : Nat} (hp : 2 ≤ p) (n : Nat) : Can p (trialM p n) := by
  unfold trialM
  split
  · refine ⟨fun d hd => ?_, fun _ => ?_⟩
    · rcases List.mem_append.1 hd with hd | hd
      · rw [List.mem_replicate] at hd; omega
      · rw [List.mem_singleton.1 hd]; omega
    · rw [co_lt (by simp)]; simp
  · exact (trialF_can hp _ _ (Nat.le_refl _)).1
theorem trialF_log {p : Nat} (hp : 2 ≤ p) : ∀ j k n, n < 2 ^ j → (trialF p k n).length ≤ j
  | 0, k, n, h => by rw [trialF_snoc, if_pos (.inr (by simpa using h))]; simp
  | j + 1, k, n, h => by
    have ih := trialF_log hp j (k - 1) (n / p) (by
      have h1 : n / p ≤ n / 2 := Nat.div_le_div_left hp (by decide)
      rw [Nat.pow_succ] at h
      omega)
    rw [trialF_snoc]
    split
    · simp
    · simp only [List.length_cons]; omega
theorem trialM_len {p n : Nat} (hp : 2 ≤ p) (hpl : p < 4294967296) (hn : n < 1099511627776 ∧ (p = 2 → n < 1000)) : (trialM p n).length < 10000 := by
  unfold trialM
  split
  · rename_i h
    have := hn.2 h
    simp; omega
  · have := trialF_log hp 41 (n + p) (n + p) (by have := hn.1; omega)
    omega
theorem trialF_len {p : Nat} : ∀ k n, (trialF p k n).length ≤ k
  | 0, n => by rw [trialF_snoc, if_pos (.inl rfl)]; simp
  | k + 1, n => by
    have ih := trialF_len (p := p) k (n / p)
    rw [trialF_snoc]
    split
    · simp
    · simp; omega
theorem powF_can {p : Nat} (hp : Fld p) {g : List Nat} (cg : Can p g) (hg : g ≠ []) : ∀ k n r s, (Can p r ∧ r.length < g.length) → (Can p s ∧ s.length < g.length) → Can p (powF p g k n r s) ∧ (powF p g k n r s).length < g.length
  | 0, _, _, _, hr, _ => hr
  | k + 1, n, r, s, hr, hs => by
    by_cases hn : n = 0
    · rw [hn, powF_zero]; exact hr
    · rw [powF_succ hn]
      refine powF_can hp cg hg k _ _ _ ?_ ?_
      · split
        · exact hr
        · exact remM_can hp (mulM_can hp r s) cg hg
      · split
        · exact hs
        · exact remM_can hp (mulM_can hp s s) cg hg
theorem powM_can {p : Nat} (hp : Fld p) {f g : List Nat} (cf : Can p f) (cg : Can p g) (hg : g ≠ []) (n : Nat) : Can p (powM p f n g) ∧ (powM p f n g).length < g.length :=
  powF_can hp cg hg _ _ _ _ (remM_can hp (one_can hp) cg hg) (remM_can hp cf cg hg)

theorem sepF_can {p : Nat} (hp : Fld p) {f : List Nat} (cf : Can p f) (hfn : f ≠ []) : ∀ k c s d, (Can p c ∧ c.length < f.length) → (Can p s ∧ s.length < f.length) → (Can p d ∧ d.length < f.length) →
    (Can p (sepF p f k c s d).1 ∧ (sepF p f k c s d).1.length < f.length) ∧ (Can p (sepF p f k c s d).2 ∧ (sepF p f k c s d).2.length < f.length)
  | 0, _, _, _, _, hs, hd => ⟨hs, hd⟩
  | k + 1, c, s, d, hc, hs, hd => by
    have r3 := powM_can hp hc.1 cf hfn p
    have la : (addM p s (powM p c p f)).length ≤ max s.length (powM p c p f).length := cnf_len _ _ _
    refine sepF_can hp cf hfn k _ _ _ r3 ⟨addM_can hp _ _, by omega⟩ ?_
    split
    · exact hd
    · exact remM_can hp (mulM_can hp _ _) cf hfn
theorem sepM_can {p : Nat} (hp : Fld p) {t f : List Nat} (ct : Can p t) (cf : Can p f) (hfn : f ≠ []) (degree : Nat) : Can p (sepM p t f degree) ∧ (sepM p t f degree).length ≤ f.length := by
  have r1 := remM_can hp ct cf hfn
  have hs := sepF_can hp cf hfn (degree - 1) _ _ _ r1 r1 r1
  have hf0 : f.length ≠ 0 := fun e => hfn (List.eq_nil_of_length_eq_zero e)
  unfold sepM
  dsimp only
  split
  · exact ⟨hs.1.1, by omega⟩
  · have r3 := powM_can hp hs.2.1 cf hfn ((p - 1) / 2)
    refine ⟨subM_can hp _ _, ?_⟩
    have la : (subM p (powM p (sepF p f (degree - 1) (remM p t f) (remM p t f) (remM p t f)).2 ((p - 1) / 2) f) [1]).length ≤ max (powM p (sepF p f (degree - 1) (remM p t f) (remM p t f) (remM p t f)).2 ((p - 1) / 2) f).length [1].length := cnf_len _ _ _
    have : [1].length = 1 := rfl
    omega

set_option maxHeartbeats 800000 in
theorem modseparator_any (h : Heap) (v w : Value) (t f : List Nat) (degree p : Nat) (ht : Nums .u32 h v t) (hf : Nums .u32 h w f) (ct : Can p t) (cf : Can p f) (hp : Fld p) (hfn : f ≠ []) (hd1 : 1 ≤ degree) (hd2 : degree < 1000000) (hlt : t.length < 1000000) (hlf : f.length < 10000) :
    Spec E.P f_modpoly_separator #[v, w, .int .i64 degree, vnum .u32 p] h (fun v' h' => Ext h h' ∧ Nums .u32 h' v' (sepM p t f degree)) := by
  have hp2 := hp.two
  have hpl := hp.lt
  refine Spec.intro hE (args := [_, _, _, _]) F_modpoly_separator rfl rfl (Nat.le_of_ble_eq_true rfl) ?_
  refine (modremainder_any h v w t f p ht hf ct cf hp hfn (by omega) (by omega)).mono ?_
  rintro v1 h1 ⟨hx1, hv1⟩
  have r1 := remM_can hp ct cf hfn
  refine DWrap.is ((degree - 1 : Nat) : Int) (by omega) (by omega) ?_
  generalize hS : sepF p f (degree - 1) (remM p t f) (remM p t f) (remM p t f) = S
  refine DLoop.intro hE (ι := Nat × Value × Value × Value × List Nat × List Nat × List Nat) (fun s => [(20, .int .i64 s.1), (19, .int .i64 ((degree - 1 : Nat) : Int)), (9, s.2.1), (10, s.2.2.1), (11, s.2.2.2.1), (1, w), (3, vnum .u32 p)])
    (fun s h' => Ext h h' ∧ s.1 ≤ degree - 1 ∧ Nums .u32 h' s.2.1 s.2.2.2.2.1 ∧ Nums .u32 h' s.2.2.1 s.2.2.2.2.2.1 ∧ Nums .u32 h' s.2.2.2.1 s.2.2.2.2.2.2 ∧ (Can p s.2.2.2.2.1 ∧ s.2.2.2.2.1.length < f.length) ∧ (Can p s.2.2.2.2.2.1 ∧ s.2.2.2.2.2.1.length < f.length) ∧ (Can p s.2.2.2.2.2.2 ∧ s.2.2.2.2.2.2.length < f.length) ∧ sepF p f (degree - 1 - s.1) s.2.2.2.2.1 s.2.2.2.2.2.1 s.2.2.2.2.2.2 = S) (fun s => degree - 1 - s.1)
    (0, v1, v1, v1, remM p t f, remM p t f, remM p t f) rfl ⟨rfl, rfl, rfl, rfl, rfl, rfl, rfl, trivial⟩ ⟨hx1, Nat.zero_le _, hv1, hv1, hv1, r1, r1, r1, hS⟩ ?_
  rintro ⟨i, cv, sv, dv, c, s, d⟩ h2 ⟨hx2, hi, hc, hs, hd, cc, cs, cd, he⟩
  dsimp only at hi hc hs hd cc cs cd he ⊢
  refine bsp.dec (p := (i : Int) < ((degree - 1 : Nat) : Int)) (fun hlt2 => ?_) (fun hge => ?_)
  · obtain ⟨k, hk⟩ : ∃ k, degree - 1 - i = k + 1 := ⟨degree - 1 - i - 1, by omega⟩
    rw [hk] at he
    have he' : sepF p f k (powM p c p f) (addM p s (powM p c p f)) (if p = 2 then d else remM p (mulM p d (powM p c p f)) f) = S := he
    refine DWrap.eq (m := (p : Nat)) (by rw [IntKind.wrap_u64]; omega) ?_
    refine (modpowMod_any h2 cv w c f p p hc (hf.ext hx2) cc.1 cf hp hfn (by omega) (by omega) (by omega)).mono ?_
    rintro v3 h3 ⟨hx3, hv3⟩
    have r3 := powM_can hp cc.1 cf hfn p
    refine (modAddM h3 sv v3 s _ p (hs.ext hx3) hv3 cs.1 r3.1 hp (by omega) (by omega)).mono ?_
    rintro v4 h4 ⟨hx4, hv4⟩
    have la : (addM p s (powM p c p f)).length ≤ max s.length (powM p c p f).length := cnf_len _ _ _
    have r4 : Can p (addM p s (powM p c p f)) ∧ (addM p s (powM p c p f)).length < f.length := ⟨addM_can hp _ _, by omega⟩
    refine bsp.intro (b := ((p : Int) != 2)) (fun hb => ?_) (fun hb => ?_)
    · have hp' : p ≠ 2 := by simp at hb; omega
      rw [if_neg hp'] at he'
      refine (modMulM h4 dv v3 d _ p (hd.ext (hx3.trans hx4)) (hv3.ext hx4) cd.1 r3.1 hp (by omega) (by omega)).mono ?_
      rintro v5 h5 ⟨hx5, hv5⟩
      have lm : (mulM p d (powM p c p f)).length ≤ d.length + (powM p c p f).length := cnf_len _ _ _
      refine (modremainder_any h5 v5 w _ f p hv5 (hf.ext (hx2.trans (hx3.trans (hx4.trans hx5)))) (mulM_can hp _ _) cf hp hfn (by omega) (by omega)).mono ?_
      rintro v6 h6 ⟨hx6, hv6⟩
      have r6 := remM_can hp (mulM_can hp d (powM p c p f)) cf hfn
      refine DWrap.is ((i + 1 : Nat) : Int) (by omega) (by omega) ?_
      refine ⟨(i + 1, v3, v4, v6, powM p c p f, addM p s (powM p c p f), remM p (mulM p d (powM p c p f)) f), ⟨rfl, rfl, rfl, rfl, rfl, rfl, rfl, trivial⟩, ⟨hx2.trans (hx3.trans (hx4.trans (hx5.trans hx6))), by dsimp only; omega, hv3.ext (hx4.trans (hx5.trans hx6)), hv4.ext (hx5.trans hx6), hv6, r3, r4, r6, ?_⟩, by dsimp only; omega⟩
      dsimp only
      rw [show degree - 1 - (i + 1) = k by omega]; exact he'
    · have hp' : p = 2 := by simp at hb; omega
      rw [if_pos hp'] at he'
      refine DWrap.is ((i + 1 : Nat) : Int) (by omega) (by omega) ?_
      refine ⟨(i + 1, v3, v4, dv, powM p c p f, addM p s (powM p c p f), d), ⟨rfl, rfl, rfl, rfl, rfl, rfl, rfl, trivial⟩, ⟨hx2.trans (hx3.trans hx4), by dsimp only; omega, hv3.ext hx4, hv4, hd.ext (hx3.trans hx4), r3, r4, cd, ?_⟩, by dsimp only; omega⟩
      dsimp only
      rw [show degree - 1 - (i + 1) = k by omega]; exact he'
  · rw [show degree - 1 - i = 0 by omega] at he
    have he' : (s, d) = S := he
    have hsep : sepM p t f degree = if p = 2 then s else subM p (powM p d ((p - 1) / 2) f) [1] := by
      unfold sepM
      dsimp only
      rw [hS, ← he']
    rw [hsep]
    refine bsp.intro (b := ((p : Int) == 2)) (fun hb => ?_) (fun hb => ?_)
    · have hp' : p = 2 := by simp at hb; omega
      rw [if_pos hp']
      exact ⟨hx2, hs⟩
    · have hp' : p ≠ 2 := by simp at hb; omega
      rw [if_neg hp']
      refine DWrap.eq (m := ((p - 1 : Nat) : Int)) (by rw [IntKind.wrap_u32']; omega) ?_
      refine DWrap.eq (m := ((p - 1 : Nat) : Int)) (by rw [IntKind.wrap_u64]; omega) ?_
      refine ⟨by decide, ?_⟩
      refine DWrap.eq (m := (((p - 1) / 2 : Nat) : Int)) (by rw [Int.tdiv_eq_ediv_of_nonneg (by omega), IntKind.wrap_u64]; omega) ?_
      refine (modpowMod_any h2 dv w d f ((p - 1) / 2) p hd (hf.ext hx2) cd.1 cf hp hfn (by omega) (by omega) (by omega)).mono ?_
      rintro v3 h3 ⟨hx3, hv3⟩
      have r3 := powM_can hp cd.1 cf hfn ((p - 1) / 2)
      refine ⟨⟨rfl, by decide, rfl, rfl, trivial⟩, ?_⟩
      refine DNew.intro ?_
      intro ob h4 hob hx4 hs4 hg4
      have hone : Nums .u32 h4 (.slice (some ⟨ob, 0, none⟩) 1 1) [1] := Whole.nums (e := t_uint32) hg4 rfl
      refine (modSubM h4 v3 _ _ [1] p (hv3.ext hx4) hone r3.1 (one_can hp) hp (by omega) (by decide)).mono ?_
      rintro v5 h5 ⟨hx5, hv5⟩
      exact ⟨hx2.trans (hx3.trans (hx4.trans hx5)), hv5⟩

theorem divM_ne {p : Nat} (hp : Fld p) {f g : List Nat} (cf : Can p f) (cg : Can p g) (hg : g ≠ []) (hl : g.length ≤ f.length) : (divM p f g).1 ≠ [] := fun e => by
  have hs := divM_sem hp cf cg hg
  have hp2 := hp.two
  have hg0 : g.length ≠ 0 := fun e => hg (List.eq_nil_of_length_eq_zero e)
  have h1 := hs.eq (f.length - 1)
  have h2 := hs.lt
  rw [e, show conv [] g (f.length - 1) = 0 from sumN_zero fun i _ => by rw [co_ge (f := []) (by simp), Nat.zero_mul], co_ge (f := (divM p f g).2) (by omega), Nat.zero_add, Nat.zero_mod, cf.mod (by omega)] at h1
  exact cf.lead (by omega) h1

set_option maxHeartbeats 800000 in
theorem modequalDegree_any (p degree : Nat) (hp : Fld p) (hd1 : 1 ≤ degree) (hd2 : degree < 1000000) {f : List Nat} {L : List (List Nat)} (hE' : EqD p degree f L) :
    Can p f → f ≠ [] → f.length < 10000 → L.length < 10000 → ∀ (h : Heap) (v : Value), PoT h v f → Spec E.P f_modpoly_equalDegree #[v, .int .i64 degree, vnum .u32 p] h (fun v' h' => Ext h h' ∧ PsOwn h' h.size v' L) := by
  have hp2 := hp.two
  have hpl := hp.lt
  induction hE' with
  | leaf f hle =>
    intro cf hfn hlf _ h v hv
    have hv0 := hv
    obtain ⟨⟨a, cap, rfl, -⟩, -⟩ := hv
    have hf0 : f.length ≠ 0 := fun e => hfn (List.eq_nil_of_length_eq_zero e)
    refine Spec.intro hE (args := [_, _, _]) F_modpoly_equalDegree rfl rfl (Nat.le_of_ble_eq_true rfl) ?_
    refine DWrap.is ((f.length - 1 : Nat) : Int) (by omega) (by omega) ?_
    refine bsp.dec (p := ((f.length - 1 : Nat) : Int) ≤ degree) (fun _ => ?_) (fun hc => ?_)
    · refine ⟨⟨rfl, by decide, rfl, rfl, trivial⟩, ?_⟩
      refine DNew.intro ?_
      intro b h1 hb hx1 hs1 hg1
      exact ⟨hx1, PsOwn.one (by omega) hg1 (hv0.ext hx1)⟩
    · exfalso; omega
  | node f n L1 L2 hdl hn hit first e1 e2 ih1 ih2 =>
    intro cf hfn hlf hLL h v hv
    have hv0 := hv
    obtain ⟨⟨a, cap, rfl, -⟩, -⟩ := hv
    have hf0 : f.length ≠ 0 := fun e => hfn (List.eq_nil_of_length_eq_zero e)
    rw [List.length_append] at hLL
    refine Spec.intro hE (args := [_, _, _]) F_modpoly_equalDegree rfl rfl (Nat.le_of_ble_eq_true rfl) ?_
    refine DWrap.is ((f.length - 1 : Nat) : Int) (by omega) (by omega) ?_
    refine bsp.dec (p := ((f.length - 1 : Nat) : Int) ≤ degree) (fun hc => ?_) (fun _ => ?_)
    · exfalso; omega
    refine DLoop.intro hE (ι := Nat) (fun m => [(7, vnum .u64 m), (0, .slice a f.length cap), (1, .int .i64 degree), (2, vnum .u32 p)]) (fun m h' => Ext h h' ∧ m ≤ n) (fun m => n - m) 0 rfl ⟨rfl, rfl, rfl, rfl, trivial⟩ ⟨Ext.rfl, Nat.zero_le _⟩ ?_
    rintro m h1 ⟨hx1, hm⟩
    refine (modtrial_any h1 m p (by have := hn.1; omega) hp2 hpl).mono ?_
    rintro v2 h2 ⟨hx2, hv2⟩
    have hx12 := hx1.trans hx2
    have ht := trialM_can hp2 m
    have htl := trialM_len hp2 hpl (n := m) ⟨by have := hn.1; omega, fun e => by have := hn.2 e; omega⟩
    refine (modseparator_any h2 v2 _ _ f degree p hv2.1 (hv0.1.ext hx12) ht cf hp hfn hd1 hd2 (by omega) hlf).mono ?_
    rintro v3 h3 ⟨hx3, hv3⟩
    have hx13 := hx12.trans hx3
    have ⟨cs, ls⟩ := sepM_can hp ht cf hfn degree
    refine (modgcd_T h3 v3 _ _ f p hv3 (hv0.1.ext hx13) cs cf hp (by omega) (by omega)).mono ?_
    rintro v4 h4 ⟨hx4, hv4, ht4⟩
    have hx14 := hx13.trans hx4
    have hP : PoT h4 v4 (partM p f degree m) := ⟨hv4, ht4⟩
    have cP : Can p (partM p f degree m) := gcdM_can hp _ _
    have hP0 := hP
    obtain ⟨⟨pa, pcap, rfl, -⟩, -⟩ := hP
    have next : ¬ Hit p f degree m → m < n := fun hc => by
      rcases Nat.lt_or_ge m n with h | h
      · exact h
      · exact absurd (by rw [show m = n by omega]; exact hit) hc
    refine bsp.dec (p := ((partM p f degree m).length : Int) > 1) (fun h1' => ?_) (fun h1' => ?_)
    · refine bsp.dec (p := ((partM p f degree m).length : Int) < f.length) (fun h2' => ?_) (fun h2' => ?_)
      · have hhit : Hit p f degree m := ⟨by omega, by omega⟩
        obtain rfl : m = n := by
          rcases Nat.lt_or_ge m n with h | h
          · exact absurd hhit (first m h)
          · omega
        have hPn : partM p f degree m ≠ [] := fun e => by rw [e] at h1'; simp at h1'
        have lP : (partM p f degree m).length < f.length := hit.2
        have dv := divM_sem hp cf cP hPn
        have dl := dv.ql
        have hdn := divM_ne hp cf cP hPn (by omega)
        generalize hPe : partM p f degree m = P at *
        refine (moddivide_T h4 _ _ f P p (hv0.1.ext hx14) hP0.1 cf cP hp hPn (by omega) (by omega)).mono ?_
        rintro _ h5 ⟨hx5, q, r, rfl, hq, hr, tq, tr⟩
        refine (ih1 cP hPn (by omega) (by omega) h5 _ (hP0.ext hx5)).mono ?_
        rintro v6 h6 ⟨hx6, ho6⟩
        refine (ih2 dv.cq hdn (by omega) (by omega) h6 q ⟨hq.ext hx6, tq.ext hx6⟩).mono ?_
        rintro v7 h7 ⟨hx7, ho7⟩
        have s57 := (hx14.trans (hx5.trans (hx6.trans hx7))).size
        have s5 := (hx14.trans hx5).size
        refine DRun.polys (ho6.ext hx7) ho7 e2.ne (by omega) (hx6.trans hx7).size ?_
        intro v8 h8 ho8 hg8 _
        refine ⟨((Old.rfl (B := h.size).ext (hx14.trans (hx5.trans (hx6.trans hx7))) (Nat.le_refl _)).grown hg8 (Nat.le_refl _) fun k hk => ?_).toExt, ho8.base s5⟩
        exact Nat.le_trans s5 (ho6.block hk).1
      · have hlt := next fun hh => h2' (by have := hh.2; omega)
        refine DWrap.eq (m := ((m + 1 : Nat) : Int)) (by rw [IntKind.wrap_u64]; omega) ?_
        exact ⟨m + 1, ⟨rfl, rfl, rfl, rfl, trivial⟩, ⟨hx14, by omega⟩, by omega⟩
    · have hlt := next fun hh => h1' (by have := hh.1; omega)
      refine DWrap.eq (m := ((m + 1 : Nat) : Int)) (by rw [IntKind.wrap_u64]; omega) ?_
      exact ⟨m + 1, ⟨rfl, rfl, rfl, rfl, trivial⟩, ⟨hx14, by omega⟩, by omega⟩

theorem x_can {p : Nat} (hp : Fld p) : Can p [0, 1] := ⟨fun d hd => by
  have := hp.two
  simp at hd; omega, fun _ => by decide⟩
theorem gcdF_len {p : Nat} (hp : Fld p) : ∀ n f g, Can p f → Can p g → (gcdF p n f g).length ≤ max f.length g.length
  | 0, f, g, _, _ => by have := monicM_len (p := p) f; show (monicM p f).length ≤ _; omega
  | n + 1, f, g, cf, cg => by
    by_cases h : g = []
    · show (if g = [] then monicM p f else _).length ≤ _
      rw [if_pos h]
      have := monicM_len (p := p) f; omega
    · rw [gcdF_step h]
      have hr := remM_can hp cf cg h
      have := gcdF_len hp n g (remM p f g) cg hr.1
      omega

set_option maxHeartbeats 800000 in
theorem modbyDegree_any (p : Nat) (hp : Fld p) {f : List Nat} {L : List (List Nat)} (hB : ByD p f (remM p [0, 1] f) 1 [] L) (cf : Can p f) (hfn : f ≠ []) (hlf : f.length < 10000) (hLL : L.length < 10000) (h : Heap) (v : Value) (hv : PoT h v f) :
    Spec E.P f_modpoly_byDegree #[v, vnum .u32 p] h (fun v' h' => Ext h h' ∧ PsOwn h' h.size v' L) := by
  have hp2 := hp.two
  have hpl := hp.lt
  refine Spec.intro hE (args := [_, _]) F_modpoly_byDegree rfl rfl (Nat.le_of_ble_eq_true rfl) ?_
  refine ⟨⟨rfl, by decide, rfl, rfl, rfl, rfl, trivial⟩, ?_⟩
  refine DNew.intro ?_
  intro xb h1 hxb hx1 hs1 hg1
  have hxx : Nums .u32 h1 (.slice (some ⟨xb, 0, none⟩) 2 2) [0, 1] := Whole.nums (e := t_uint32) hg1 rfl
  have htx : Ty h1 (.slice (some ⟨xb, 0, none⟩) 2 2) := fun k hk => by
    simp [Value.ownBlock] at hk
    subst hk; exact ⟨_, _, hg1⟩
  refine (modremainder_T h1 _ v [0, 1] f p hxx (hv.1.ext hx1) (x_can hp) cf hp hfn (by decide) (by omega)).mono ?_
  rintro v2 h2 ⟨hx2, hv2, tv2⟩
  have r2 := remM_can hp (x_can hp) cf hfn
  refine DLoop.intro hE (ι := Value × List Nat × Value × List Nat × Nat × Value × List (List Nat)) (fun s => [(0, s.1), (7, s.2.2.1), (8, .int .i64 s.2.2.2.2.1), (5, s.2.2.2.2.2.1), (6, .slice (some ⟨xb, 0, none⟩) 2 2), (1, vnum .u32 p)])
    (fun s h' => Ext h h' ∧ PoT h' s.1 s.2.1 ∧ PoT h' s.2.2.1 s.2.2.2.1 ∧ PoT h' (.slice (some ⟨xb, 0, none⟩) 2 2) [0, 1] ∧ PsOwn h' h.size s.2.2.2.2.2.1 s.2.2.2.2.2.2 ∧ Can p s.2.1 ∧ s.2.1 ≠ [] ∧ s.2.1.length < 10000 ∧ Can p s.2.2.2.1 ∧ s.2.2.2.1.length < 10000 ∧ s.2.2.2.2.2.2.length < 10000 ∧ 1 ≤ s.2.2.2.2.1 ∧ s.2.2.2.2.1 < 20000 ∧ ByD p s.2.1 s.2.2.2.1 s.2.2.2.2.1 s.2.2.2.2.2.2 L) (fun s => s.2.1.length + 1 - s.2.2.2.2.1)
    (v, f, v2, remM p [0, 1] f, 1, .slice none 0 0, []) rfl ⟨rfl, rfl, rfl, rfl, rfl, rfl, trivial⟩ ⟨hx1.trans hx2, hv.ext (hx1.trans hx2), ⟨hv2, tv2⟩, ⟨hxx.ext hx2, htx.ext hx2⟩, PsOwn.nil _ _, cf, hfn, hlf, r2.1, by dsimp only; omega, by simp, Nat.le_refl _, by simp, hB⟩ ?_
  clear hv cf hfn hlf hv2 tv2 r2 hB hxx htx
  rintro ⟨fv, f, pv, power, degree, lv, l⟩ h3 ⟨hx3, hf, hpw, hx, ho, cf, hfn, hlf, cpw, hlp, hll, hd1, hd2, hby⟩
  dsimp only at hf hpw hx ho cf hfn hlf cpw hlp hll hd1 hd2 hby ⊢
  have hf0 := hf
  obtain ⟨⟨a, cap, rfl, -⟩, -⟩ := hf
  have hfl0 : f.length ≠ 0 := fun e => hfn (List.eq_nil_of_length_eq_zero e)
  refine DWrap.is ((2 * degree : Nat) : Int) (by omega) (by omega) ?_
  refine DWrap.is ((f.length - 1 : Nat) : Int) (by omega) (by omega) ?_
  refine bsp.dec (p := ((2 * degree : Nat) : Int) ≤ ((f.length - 1 : Nat) : Int)) (fun hc => ?_) (fun hc => ?_)
  · have hc' : 2 * degree ≤ f.length - 1 := by omega
    refine DWrap.eq (m := (p : Nat)) (by rw [IntKind.wrap_u64]; omega) ?_
    refine (modpowMod_T h3 pv _ power f p p hpw.1 hf0.1 cpw cf hp hfn (by omega) (by omega) (by omega)).mono ?_
    rintro v4 h4 ⟨hx4, hv4, tv4⟩
    have r4 := powM_can hp cpw cf hfn p
    refine (modSubM h4 v4 _ _ [0, 1] p hv4 (hx.1.ext hx4) r4.1 (x_can hp) hp (by omega) (by decide)).mono ?_
    rintro v5 h5 ⟨hx5, hv5⟩
    have la : (subM p (powM p power p f) [0, 1]).length ≤ max (powM p power p f).length [0, 1].length := cnf_len _ _ _
    have l2 : [0, 1].length = 2 := rfl
    have cS := subM_can hp (powM p power p f) [0, 1]
    refine (modgcd_T h5 v5 _ _ f p hv5 (hf0.1.ext (hx4.trans hx5)) cS cf hp (by omega) (by omega)).mono ?_
    rintro v6 h6 ⟨hx6, hv6, tv6⟩
    have cP := gcdM_can hp (subM p (powM p power p f) [0, 1]) f
    have lP := gcdF_len hp f.length _ _ cS cf
    have lP' : (gcdM p (subM p (powM p power p f) [0, 1]) f).length ≤ f.length := Nat.le_trans lP (by omega)
    have hx36 := hx4.trans (hx5.trans hx6)
    have hv60 := hv6
    obtain ⟨pa, pcap, rfl, -⟩ := hv6
    refine bsp.dec (p := ((gcdM p (subM p (powM p power p f) [0, 1]) f).length : Int) > 1) (fun h1' => ?_) (fun h1' => ?_)
    · cases hby with
      | done _ _ _ _ hn => exact absurd hc' hn
      | skip _ _ _ _ _ _ hn _ => exact absurd (by omega) hn
      | take _ _ _ _ L1 _ _ _ he hr =>
        generalize gcdM p (subM p (powM p power p f) [0, 1]) f = P at *
        have hPn : P ≠ [] := fun e => by rw [e] at h1'; simp at h1'
        have dv := divM_sem hp cf cP hPn
        have dl := dv.ql
        have hdn := divM_ne hp cf cP hPn lP'
        have lL1 : l.length + L1.length < 10000 := by
          have := hr.len
          rw [List.length_append] at this; omega
        refine (modequalDegree_any p degree hp hd1 (by omega) he cP hPn (by omega) (by omega) h6 _ ⟨hv60, tv6⟩).mono ?_
        rintro v7 h7 ⟨hx7, ho7⟩
        have hx37 := hx36.trans hx7
        have ho3 := ho.ext hx37
        refine DRun.polys ho3 ho7 he.ne (by omega) (hx3.trans hx37).size ?_
        intro v8 h8 ho8 hg8 hkeep
        have hx8 : Ext h h8 := ((Old.rfl (B := h.size).ext (hx3.trans hx37) (Nat.le_refl _)).grown hg8 (Nat.le_refl _) fun k hk => (ho.block hk).1).toExt
        have hf8 := hkeep _ _ (hf0.ext hx37)
        have hP8 := hkeep _ _ (PoT.ext hx7 ⟨hv60, tv6⟩)
        have hp8 := hkeep _ _ (PoT.ext (hx5.trans (hx6.trans hx7)) ⟨hv4, tv4⟩)
        have hxx8 := hkeep _ _ (hx.ext hx37)
        refine (moddivide_T h8 _ _ f P p hf8.1 hP8.1 cf cP hp hPn (by omega) (by omega)).mono ?_
        rintro _ h9 ⟨hx9, q, r, rfl, hq, hr', tq, tr⟩
        refine (modremainder_T h9 v4 q _ _ p (hp8.1.ext hx9) hq r4.1 dv.cq hp hdn (by omega) (by omega)).mono ?_
        rintro v10 h10 ⟨hx10, hv10, tv10⟩
        have r10 := remM_can hp r4.1 dv.cq hdn
        refine DWrap.is ((degree + 1 : Nat) : Int) (by omega) (by omega) ?_
        exact ⟨(q, (divM p f P).1, v10, remM p (powM p power p f) (divM p f P).1, degree + 1, v8, l ++ L1), ⟨rfl, rfl, rfl, rfl, rfl, rfl, trivial⟩, ⟨hx8.trans (hx9.trans hx10), ⟨hq.ext hx10, tq.ext hx10⟩, ⟨hv10, tv10⟩, hxx8.ext (hx9.trans hx10), ho8.ext (hx9.trans hx10), dv.cq, hdn, by dsimp only; omega, r10.1, by dsimp only; omega, by dsimp only; rw [List.length_append]; exact lL1, by dsimp only; omega, by dsimp only; omega, hr⟩, by dsimp only; omega⟩
    · cases hby with
      | done _ _ _ _ hn => exact absurd hc' hn
      | take _ _ _ _ L1 _ _ hn _ _ => exact absurd hn (by omega)
      | skip _ _ _ _ _ _ _ hr =>
        refine DWrap.is ((degree + 1 : Nat) : Int) (by omega) (by omega) ?_
        exact ⟨(_, f, v4, powM p power p f, degree + 1, lv, l), ⟨rfl, rfl, rfl, rfl, rfl, rfl, trivial⟩, ⟨hx3.trans hx36, hf0.ext hx36, ⟨hv4.ext (hx5.trans hx6), tv4.ext (hx5.trans hx6)⟩, hx.ext hx36, ho.ext hx36, cf, hfn, hlf, r4.1, by dsimp only; omega, hll, by dsimp only; omega, by dsimp only; omega, hr⟩, by dsimp only; omega⟩
  · cases hby with
    | skip _ _ _ _ _ hn _ _ => exact absurd hn (by omega)
    | take _ _ _ _ _ _ hn _ _ _ => exact absurd hn (by omega)
    | done _ _ _ _ _ =>
      refine DJoin.split hE rfl ?_
      refine bsp.dec (p := (f.length : Int) > 1) (fun h1' => ?_) (fun h1' => ?_)
      · refine ⟨⟨rfl, by decide, rfl, rfl, trivial⟩, ?_⟩
        refine DNew.intro ?_
        intro b h4 hb hx4 hs4 hg4
        refine DRun.polys (ho.ext hx4) (PsOwn.one (base := 0) (Nat.zero_le _) hg4 (hf0.ext hx4)) (by simp) (by simp; omega) (hx3.trans hx4).size ?_
        intro v8 h8 ho8 hg8 hkeep
        rw [if_pos (by omega)]
        exact ⟨((Old.rfl (B := h.size).ext (hx3.trans hx4) (Nat.le_refl _)).grown hg8 (Nat.le_refl _) fun k hk => (ho.block hk).1).toExt, ho8⟩
      · rw [if_neg (by omega), List.append_nil]
        exact ⟨hx3, ho⟩
end Go.Vc
