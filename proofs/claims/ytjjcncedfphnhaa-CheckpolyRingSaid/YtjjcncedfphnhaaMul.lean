/- Products of canonical polynomials. -/
import Derived.Test.YtjjcncedfphnhaaAdd
namespace Go.Vc
open Go.Proofs

def pmulP : Pol → Pol → Pol
  | [], _ => []
  | s :: r, g => (g.map fun t => tmul t s) ++ pmulP r g

theorem pmulP_append (f1 f2 g : Pol) : pmulP (f1 ++ f2) g = pmulP f1 g ++ pmulP f2 g := by
  induction f1 with
  | nil => rfl
  | cons s r ih => simp only [List.cons_append, pmulP, ih, List.append_assoc]

theorem addE_comm (a b : List Nat) : addE a b = addE b a := by
  unfold addE; rw [List.zipWith_comm]; congr 1; funext x y; exact Nat.add_comm y x
theorem tmul_comm (s t : Term1) : tmul s t = tmul t s := by unfold tmul; rw [Int.mul_comm, addE_comm]

theorem cf_pmul_nil (f : Pol) (e : List Nat) : cf (pmulP f []) e = 0 := by
  induction f with
  | nil => rfl
  | cons s r ih => simp only [pmulP, List.map_nil, List.nil_append, ih]
theorem cf_pmul_cons (f : Pol) (t : Term1) (g : Pol) (e : List Nat) : cf (pmulP f (t :: g)) e = cf (f.map fun s => tmul s t) e + cf (pmulP f g) e := by
  induction f with
  | nil => rfl
  | cons s r ih =>
    simp only [pmulP, List.map_cons, List.cons_append, cf, cf_append, ih]
    rw [tmul_comm t s]
    omega
theorem cf_pmul_comm (f g : Pol) (e : List Nat) : cf (pmulP f g) e = cf (pmulP g f) e := by
  induction g with
  | nil => rw [cf_pmul_nil]; rfl
  | cons t r ih => rw [cf_pmul_cons, ih]; simp only [pmulP, cf_append]

theorem cf_mem {p : Pol} {e : List Nat} (h : cf p e ≠ 0) : ∃ t ∈ p, t.2 = e := by
  by_cases hm : ∃ t ∈ p, t.2 = e
  · exact hm
  · exact absurd (cf_not_mem fun t ht he => hm ⟨t, ht, he⟩) h

/-- in a canonical polynomial each coefficient is that of its term -/
theorem Canon.cf_term : ∀ {q : Pol}, Canon q → ∀ t ∈ q, cf q t.2 = t.1
  | [], _, t, ht => (List.not_mem_nil ht).elim
  | s :: r, h, t, ht => by
    rcases List.mem_cons.1 ht with rfl | ht
    · exact h.cf_head
    · have h1 := h.head_desc t ht
      have ih := Canon.cf_term h.tail t ht
      simp only [cf]
      rw [if_neg (cmpE_one_ne h1), ih]; omega

theorem Canon.expB {p q : Pol} {B : Nat} (hq : Canon q) (h : ∀ e, cf q e = cf p e) (hp : ExpB p B) : ExpB q B := fun t ht x hx => by
  have h1 := hq.cf_term t ht
  rw [h] at h1
  obtain ⟨u, hu, he⟩ := cf_mem (p := p) (e := t.2) (by rw [h1]; exact hq.nz t ht)
  exact hp u hu x (by rw [he]; exact hx)

theorem cmpL_add : ∀ (a b c : List Nat), a.length = b.length → c.length = a.length → cmpL (List.zipWith (· + ·) a c) (List.zipWith (· + ·) b c) = cmpL a b
  | [], [], [], _, _ => rfl
  | x :: xs, y :: ys, z :: zs, h1, h2 => by
    have ih := cmpL_add xs ys zs (by simpa using h1) (by simpa using h2)
    simp only [List.zipWith_cons_cons, cmpL, ih]
    by_cases h : x < y
    · rw [if_pos h, if_pos (by omega)]
    · rw [if_neg h, if_neg (show ¬ x + z < y + z by omega)]
      by_cases h' : y < x
      · rw [if_pos h', if_pos (by omega)]
      · rw [if_neg h', if_neg (show ¬ y + z < x + z by omega)]
theorem cmpE_add {a b c : List Nat} (ha : a.length = 4) (hb : b.length = 4) (hc : c.length = 4) : cmpE (addE a c) (addE b c) = cmpE a b := by
  unfold cmpE addE
  rw [List.reverse_zipWith (by omega), List.reverse_zipWith (by omega)]
  exact cmpL_add _ _ _ (by simp; omega) (by simp; omega)

theorem canon_times {f : Pol} {t : Term1} (hf : Canon f) (ht : t.1 ≠ 0) (h4 : t.2.length = 4) : Canon (f.map fun s => tmul s t) := by
  refine ⟨?_, ?_, ?_⟩
  · rw [List.pairwise_map]
    exact hf.desc.imp_of_mem fun {s u} hs hu h => by
      show cmpE (addE s.2 t.2) (addE u.2 t.2) = 1
      rw [cmpE_add (hf.l4 s hs) (hf.l4 u hu) h4]; exact h
  · intro u hu
    obtain ⟨s, hs, rfl⟩ := List.mem_map.1 hu
    exact Int.mul_ne_zero (hf.nz s hs) ht
  · intro u hu
    obtain ⟨s, hs, rfl⟩ := List.mem_map.1 hu
    show (addE s.2 t.2).length = 4
    simp [hf.l4 s hs, h4]
theorem norm1_times (f : Pol) (t : Term1) : norm1 (f.map fun s => tmul s t) = norm1 f * t.1.natAbs := by
  induction f with
  | nil => simp [norm1]
  | cons s r ih =>
    simp only [List.map_cons, norm1, ih, Nat.add_mul]
    congr 1
    exact Int.natAbs_mul _ _

/-- what a product is -/
structure IsProd (f g q : Pol) : Prop where
  canon : Canon q
  cf : ∀ e, Vc.cf q e = Vc.cf (pmulP f g) e
  norm : norm1 q ≤ norm1 f * norm1 g
  len : q.length ≤ f.length * g.length

theorem IsProd.swap {f g q : Pol} (h : IsProd f g q) : IsProd g f q := ⟨h.canon, fun e => by rw [h.cf, cf_pmul_comm], by rw [Nat.mul_comm]; exact h.norm, by rw [Nat.mul_comm]; exact h.len⟩

theorem Canon.take {f : Pol} (h : Canon f) (k : Nat) : Canon (f.take k) := ⟨h.desc.sublist (List.take_sublist _ _), fun t ht => h.nz t (List.mem_of_mem_take ht), fun t ht => h.l4 t (List.mem_of_mem_take ht)⟩
theorem Canon.drop {f : Pol} (h : Canon f) (k : Nat) : Canon (f.drop k) := ⟨h.desc.sublist (List.drop_sublist _ _), fun t ht => h.nz t (List.mem_of_mem_drop ht), fun t ht => h.l4 t (List.mem_of_mem_drop ht)⟩

set_option maxHeartbeats 1600000 in
theorem mul_huge (B : Nat) (hB : B ≤ 4611686018427387903) : ∀ (n : Nat) (h : Heap) (v1 v2 : Value) (f g : Pol), min f.length g.length ≤ n → PolyAt h v1 f → PolyAt h v2 g → Canon f → Canon g → ExpB f B → ExpB g B → norm1 f < huge → norm1 g < huge → (norm1 f < big ∨ norm1 g < big) → norm1 f * norm1 g < huge → f.length < 1000 → g.length < 1000 →
    Spec E.P f_checkpoly_mul #[v1, v2] h (fun v' h' => Ext h h' ∧ ∃ q, PolyAt h' v' q ∧ IsProd f g q) := by
  intro n
  induction n using Nat.strongRecOn with
  | _ n ih =>
  intro h v1 v2 f g hn hf hg hcf hcg hef heg hnf hng hmin hnn hlf hlg
  refine Spec.intro hE (args := [_, _]) F_checkpoly_mul rfl rfl (Nat.le_of_ble_eq_true rfl) ?_
  have hf0 := hf
  have hg0 := hg
  obtain ⟨a, cap, rfl, hcap, hfA⟩ := hf
  obtain ⟨b, cap2, rfl, hcap2, hgA⟩ := hg
  refine DJoin.cut hE (ι := Value × Pol × Value × Pol) (fun s => [(0, s.1), (1, s.2.2.1)]) (fun s h' => h' = h ∧ PolyAt h s.1 s.2.1 ∧ PolyAt h s.2.2.1 s.2.2.2 ∧ s.2.1.length ≤ s.2.2.2.length ∧ ((s.2.1 = f ∧ s.2.2.2 = g) ∨ (s.2.1 = g ∧ s.2.2.2 = f))) rfl ?_ ?_
  · refine bsp.dec (p := (f.length : Int) > g.length) (fun hc => ?_) (fun hc => ?_)
    · exact ⟨(_, g, _, f), ⟨rfl, rfl, trivial⟩, rfl, hg0, hf0, by dsimp only; omega, .inr ⟨rfl, rfl⟩⟩
    · exact ⟨(_, f, _, g), ⟨rfl, rfl, trivial⟩, rfl, hf0, hg0, by dsimp only; omega, .inl ⟨rfl, rfl⟩⟩
  rintro ⟨w1, p, w2, q⟩ h' ⟨rfl, hp, hq, hle, hpq⟩
  dsimp only at hp hq hle hpq ⊢
  have hback : ∀ z, IsProd p q z → IsProd f g z := fun z hz => by
    rcases hpq with ⟨rfl, rfl⟩ | ⟨rfl, rfl⟩
    · exact hz
    · exact hz.swap
  have hall : Canon p ∧ Canon q ∧ ExpB p B ∧ ExpB q B ∧ norm1 p < huge ∧ norm1 q < huge ∧ (norm1 p < big ∨ norm1 q < big) ∧ norm1 p * norm1 q < huge ∧ p.length < 1000 ∧ q.length < 1000 ∧ p.length ≤ n := by
    rcases hpq with ⟨rfl, rfl⟩ | ⟨rfl, rfl⟩
    · exact ⟨hcf, hcg, hef, heg, hnf, hng, hmin, hnn, hlf, hlg, by omega⟩
    · exact ⟨hcg, hcf, heg, hef, hng, hnf, hmin.symm, by rw [Nat.mul_comm]; exact hnn, hlg, hlf, by omega⟩
  clear hcf hcg hef heg hnf hng hmin hnn hlf hlg hf0 hg0 hfA hgA hcap hcap2 hpq hn
  obtain ⟨hcp, hcq, hep, heq, hnp, hnq, hmin, hnn, hlp, hlq, hpn⟩ := hall
  have hp0 := hp
  obtain ⟨pa, pcap, rfl, ⟨hpc, -⟩, hpA⟩ := hp
  refine bsp.dec (p := (p.length : Int) = 0) (fun hz => ?_) (fun hz => ?_)
  · have : p = [] := List.eq_nil_of_length_eq_zero (by omega)
    subst this
    exact ⟨Ext.rfl, [], PolyAt.nil _, hback _ ⟨Canon.nil, fun e => rfl, by simp [norm1], by simp⟩⟩
  refine bsp.dec (p := (p.length : Int) = 1) (fun h1 => ?_) (fun h1 => ?_)
  · obtain ⟨s, rfl⟩ : ∃ s, p = [s] := by
      match p, (show p.length = 1 by omega) with
      | [s], _ => exact ⟨s, rfl⟩
    obtain ⟨b1, o1, rfl, hc⟩ := hpA (by simp)
    obtain ⟨cs, hts, hcs⟩ := hc 0 (by simp)
    simp only [List.getElem_cons_zero, Nat.zero_mul, Nat.add_zero] at hts hcs
    refine DIdx.intro 0 rfl rfl (by simp) ?_
    refine DLoad.agg cs hts.len hcs ?_
    refine (times_huge h' w2 cs q s hq hts B hB heq (fun x hx => hep s (by simp) x hx) hnq (by simpa [norm1] using hnp) (hmin.symm.imp_right fun hm => by simpa [norm1] using hm) (by omega)).mono ?_
    rintro v3 h3 ⟨hx3, hp3⟩
    refine ⟨hx3, _, hp3, hback _ ⟨canon_times hcq (hcp.nz s (by simp)) (hcp.l4 s (by simp)), fun e => by simp [pmulP], ?_, by simp⟩⟩
    rw [norm1_times]; simp [norm1, Nat.mul_comm]
  · have hp2 : 2 ≤ p.length := by omega
    refine ⟨by decide, ?_⟩
    have hsum : norm1 (p.take (p.length / 2)) + norm1 (p.drop (p.length / 2)) = norm1 p := by rw [← norm1_append, List.take_append_drop]
    have hmul : norm1 (p.take (p.length / 2)) * norm1 q + norm1 (p.drop (p.length / 2)) * norm1 q = norm1 p * norm1 q := by rw [← Nat.add_mul, hsum]
    have hlt : (p.take (p.length / 2)).length = p.length / 2 := by rw [List.length_take]; omega
    have hld : (p.drop (p.length / 2)).length = p.length - p.length / 2 := by rw [List.length_drop]
    refine DWrap.is ((p.length / 2 : Nat) : Int) (by rw [Int.tdiv_eq_ediv_of_nonneg (by omega)]; omega) (by omega) ?_
    refine DDraw.intro hE (.take 0 (.take 1 (.take 2 (.take 3 (.take 5 (.take 6 (.take 7 (.take 8 (.one 4 (.one 9 (.one 10 (.one 11 .done)))))))))))) none (fun _ => True) (by kernel_rfl) trivial ?_
    refine DSlice.intro 0 (p.length / 2) rfl rfl (by omega) (by omega) ?_
    refine DSlice.intro (p.length / 2) p.length rfl rfl (by omega) (by omega) ?_
    have hp1 := hp0.slice (l := 0) (u := p.length / 2) (by omega) (by omega)
    have hp2' := hp0.slice (l := p.length / 2) (u := p.length) (by omega) (by omega)
    rw [List.drop_zero] at hp1
    rw [List.take_length] at hp2'
    have hle1 : norm1 (p.take (p.length / 2)) ≤ norm1 p := by omega
    have hle2 : norm1 (p.drop (p.length / 2)) ≤ norm1 p := by omega
    refine (ih (n - 1) (by omega) h' _ w2 (p.take (p.length / 2)) q (by omega) hp1 hq (hcp.take _) hcq (fun t ht => hep t (List.mem_of_mem_take ht)) heq (by omega) hnq (by omega) (by omega) (by omega) hlq).mono ?_
    rintro v3 h3 ⟨hx3, z1, hz1, hs1⟩
    refine ⟨trivial, ?_⟩
    refine (ih (n - 1) (by omega) h3 _ w2 (p.drop (p.length / 2)) q (by omega) (hp2'.ext hx3) (hq.ext hx3) (hcp.drop _) hcq (fun t ht => hep t (List.mem_of_mem_drop ht)) heq (by omega) hnq (by omega) (by omega) (by omega) hlq).mono ?_
    rintro v4 h4 ⟨hx4, z2, hz2, hs2⟩
    refine ⟨trivial, ?_⟩
    have n1 := hs1.norm
    have n2 := hs2.norm
    have k1 := hs1.len
    have k2 := hs2.len
    have hlm : (p.take (p.length / 2)).length * q.length + (p.drop (p.length / 2)).length * q.length = p.length * q.length := by rw [← Nat.add_mul]; congr 1; omega
    have hlm2 : p.length * q.length ≤ 1000 * 1000 := Nat.mul_le_mul (by omega) (by omega)
    refine (add_huge h4 v3 v4 z1 z2 (hz1.ext hx4) hz2 hs1.canon hs2.canon (by omega) (by omega)).mono ?_
    rintro v5 h5 ⟨hx5, z, hz, hs⟩
    refine ⟨trivial, trivial, hx3.trans (hx4.trans hx5), z, hz, hback z ⟨hs.canon, fun e => ?_, ?_, ?_⟩⟩
    · rw [hs.cf, hs1.cf, hs2.cf, ← cf_append, ← pmulP_append, List.take_append_drop]
    · have := hs.norm; omega
    · have := hs.len; omega

theorem mul_any (B : Nat) (hB : B ≤ 4611686018427387903) (n : Nat) (h : Heap) (v1 v2 : Value) (f g : Pol) (hn : min f.length g.length ≤ n) (hf : PolyAt h v1 f) (hg : PolyAt h v2 g) (hcf : Canon f) (hcg : Canon g) (hfB : ExpB f B) (hgB : ExpB g B) (h1 : norm1 f < big) (h2 : norm1 g < big) (h3 : norm1 f * norm1 g < big) (h4 : f.length < 1000) (h5 : g.length < 1000) :
    Spec E.P f_checkpoly_mul #[v1, v2] h (fun v' h' => Ext h h' ∧ ∃ q, PolyAt h' v' q ∧ IsProd f g q) :=
  mul_huge B hB n h v1 v2 f g hn hf hg hcf hcg hfB hgB (Nat.lt_trans h1 big_huge) (Nat.lt_trans h2 big_huge) (.inl h1) (Nat.lt_trans h3 big_huge) h4 h5

/-- the negated polynomial -/
def negP (f : Pol) : Pol := f.map fun t => (-t.1, t.2)
theorem cf_neg (f : Pol) (e : List Nat) : cf (negP f) e = -cf f e := by
  induction f with
  | nil => rfl
  | cons t r ih =>
    show (if t.2 = e then -t.1 else 0) + cf (negP r) e = -((if t.2 = e then t.1 else 0) + cf r e)
    rw [ih]; split <;> omega
theorem norm1_neg (f : Pol) : norm1 (negP f) = norm1 f := by
  induction f with
  | nil => rfl
  | cons t r ih =>
    show (-t.1).natAbs + norm1 (negP r) = t.1.natAbs + norm1 r
    rw [ih, Int.natAbs_neg]
theorem Canon.neg {f : Pol} (h : Canon f) : Canon (negP f) := by
  refine ⟨?_, ?_, ?_⟩
  · unfold negP; rw [List.pairwise_map]; exact h.desc
  · intro u hu
    obtain ⟨s, hs, rfl⟩ := List.mem_map.1 hu
    have := h.nz s hs
    show -s.1 ≠ 0
    omega
  · intro u hu
    obtain ⟨s, hs, rfl⟩ := List.mem_map.1 hu
    exact h.l4 s hs

abbrev zT : Term1 := (0, [0, 0, 0, 0])
abbrev zC : List Value := [.bool false, .slice none 0 0, .int .i64 (0 : Nat), .int .i64 (0 : Nat), .int .i64 (0 : Nat), .int .i64 (0 : Nat)]
theorem zTermAt (h : Heap) : TermAt h zC zT := by
  refine ⟨rfl, .bool false, .slice none 0 0, rfl, ?_⟩
  have h0 : digs (Int.natAbs 0) = [] := digs_zero
  refine ⟨none, 0, ?_, none, 0, ?_, ?_, ?_⟩ <;> rw [h0]
  · rfl
  · exact Nat.le_refl _
  · exact fun hne => absurd rfl hne
theorem zTermsIn (h : Heap) (n : Nat) : TermsIn h (List.replicate n zC) (List.replicate n zT) := ⟨by simp, fun j h1 h2 => by rw [List.getElem_replicate, List.getElem_replicate]; exact zTermAt h⟩

/-- a made slice of n zero terms -/
theorem OwnP.zeros {h : Heap} {b base n : Nat} (hb : base ≤ b) (hg : h[b]? = some (.cells (List.replicate n zC).flatten.toArray t_checkpoly_Term (0, 0))) (hn : n ≤ 9223372036854775807) : OwnP h base (.slice (some ⟨b, 0, none⟩) n n) (List.replicate n zT) := by
  refine ⟨List.replicate n zC, zTermsIn h n, ?_⟩
  have hl : (List.replicate n zC).flatten.length = n * 6 := by rw [(zTermsIn h n).all6.len]; simp
  have := Own.made (size := 6) hb hg (Nat.le_refl n) hn hl
  rw [List.length_replicate]
  rwa [List.take_of_length_le (by omega)] at this

theorem set_next {α β : Type} (F : α → β) (z : β) (f : List α) (i : Nat) (hi : i < f.length) : ((f.take i).map F ++ List.replicate (f.length - i) z).set i (F f[i]) = (f.take (i + 1)).map F ++ List.replicate (f.length - (i + 1)) z := by
  obtain ⟨k, hk⟩ : ∃ k, f.length - i = k + 1 := ⟨f.length - i - 1, by omega⟩
  have hl : ((f.take i).map F).length = i := by simp; omega
  rw [hk, List.replicate_succ, List.set_append_right _ _ (by omega), hl, Nat.sub_self, List.set_cons_zero, show f.length - (i + 1) = k by omega, List.take_succ_eq_append_getElem hi]
  simp only [List.map_append, List.map_cons, List.map_nil, List.append_assoc, List.cons_append, List.nil_append]

set_option maxHeartbeats 800000 in
theorem negate_any (h : Heap) (v : Value) (f : Pol) (hf : PolyAt h v f) (hb : norm1 f < big) (hlen : f.length < 10000000) :
    Spec E.P f_checkpoly_negate #[v] h (fun v' h' => Ext h h' ∧ PolyAt h' v' (negP f)) := by
  obtain ⟨a, cap, rfl, hcap, hfA⟩ := hf
  refine Spec.intro hE (args := [_]) F_checkpoly_negate rfl rfl (Nat.le_of_ble_eq_true rfl) ?_
  refine DMake.intro f.length f.length rfl rfl (Nat.le_refl _) (by omega) (by omega) ?_
  intro lb h1 hlb hx1 hs1 hg1
  have ho1 : OwnP h1 h.size (.slice (some ⟨lb, 0, none⟩) f.length f.length) (List.replicate f.length zT) := OwnP.zeros (by omega) hg1 (by omega)
  refine DLoop.intro hE (ι := Nat) (fun i => [(11, .int .i64 i), (9, .slice a f.length cap), (10, .int .i64 f.length), (3, .slice (some ⟨lb, 0, none⟩) f.length f.length)])
    (fun i h' => Ext h h' ∧ i ≤ f.length ∧ OwnP h' h.size (.slice (some ⟨lb, 0, none⟩) f.length f.length) ((f.take i).map (fun t => (-t.1, t.2)) ++ List.replicate (f.length - i) zT)) (fun i => f.length - i) 0 rfl ⟨rfl, rfl, rfl, rfl, trivial⟩ ⟨hx1, Nat.zero_le _, by simpa using ho1⟩ ?_
  rintro i h2 ⟨hx2, hi, ho⟩
  refine bsp.dec (fun hlt => ?_) (fun hlt => ?_)
  · have hif : i < f.length := by omega
    obtain ⟨b, off, rfl, hc⟩ := hfA (by intro e; subst e; simp at hif)
    obtain ⟨cs, ht, hcs⟩ := hc i hif
    refine DIdx.intro i rfl rfl hif ?_
    refine DLoad.agg cs ht.len (hcs.ext hx2) ?_
    refine DNew.intro ?_
    intro tb h3 htb hx3 hs3 hg3
    refine DStore.full hg3 rfl ht.len rfl ht.ones ?_
    intro h4 hu4
    have hw4 : Whole h4 tb t_checkpoly_Term cs := hu4.at_
    have hx24 : Ext h2 h4 := ((Old.rfl (B := h2.size).ext hx3 (Nat.le_refl _)).upd hu4 (by omega)).toExt
    have hx4 := hx2.trans hx24
    have ht4 := ht.ext hx4
    obtain ⟨cv, hcv, hlv, hiv⟩ := ht4.coef hw4.cellsAt
    have hd : (digs f[i].1.natAbs).length ≤ 32 := digs_bound (Nat.lt_of_le_of_lt (norm1_mem (List.getElem_mem hif)) hb)
    refine DDraw.intro hE (.take 0 (.take 1 (.take 2 (.take 5 (.take 3 (.take 6 (.one 4 (.take 7 (.take 8 (.one 9 .done)))))))))) (some 9) (Ext h4 ·) (by kernel_rfl) Ext.rfl ?_
    refine QLoad.agg cv hlv (fun _ e => hcv.ext e) ?_
    refine QLoad.agg (expV f[i].2) (by rw [expV_len]; exact ht.1) (fun _ e => (ht4.exps hw4.cellsAt).ext e) ?_
    refine (Neg_any h4 _ _ hiv (by omega)).mono ?_
    rintro v5 h5 ⟨hx5, hi5⟩
    refine ⟨hx5, ?_⟩
    have hi50 := hi5
    obtain ⟨a5, cap5, rfl, -⟩ := hi5
    obtain ⟨e0, e1, e2, e3, he⟩ := four ht.1
    have ht5 : TermAt h5 [.bool (decide (-f[i].1 < 0)), .slice a5 (digs (-f[i].1).natAbs).length cap5, .int .i64 (e0 : Nat), .int .i64 (e1 : Nat), .int .i64 (e2 : Nat), .int .i64 (e3 : Nat)] (-f[i].1, f[i].2) := ⟨ht.1, _, _, by rw [he]; rfl, hi50⟩
    rw [he]
    refine DPure.build [.bool (decide (-f[i].1 < 0)), .slice a5 (digs (-f[i].1).natAbs).length cap5, .int .i64 (e0 : Nat), .int .i64 (e1 : Nat), .int .i64 (e2 : Nat), .int .i64 (e3 : Nat)] (by kernel_rfl) ?_
    refine DIdx.intro i rfl rfl hif ?_
    have ho5 := ho.ext (hx24.trans hx5)
    have hlen5 : ((f.take i).map (fun t => ((-t.1, t.2) : Term1)) ++ List.replicate (f.length - i) zT).length = f.length := by simp; omega
    have ho6 : OwnP h5 h.size (.slice (some ⟨lb, 0, none⟩) ((f.take i).map (fun t => ((-t.1, t.2) : Term1)) ++ List.replicate (f.length - i) zT).length f.length) ((f.take i).map (fun t => ((-t.1, t.2) : Term1)) ++ List.replicate (f.length - i) zT) := by rw [hlen5]; exact ho5
    refine DStore.ownTerm i (Nat.zero_add _) ho6 (by omega) ht5 rfl ?_
    intro o6 h6 hu6 hv6 ho7
    rw [hlen5, set_next (fun t => ((-t.1, t.2) : Term1)) zT f i hif] at ho7
    refine DWrap.is ((i + 1 : Nat) : Int) (by omega) (by omega) ?_
    refine ⟨i + 1, ⟨rfl, rfl, rfl, rfl, trivial⟩, ⟨?_, by omega, ho7⟩, by omega⟩
    exact ((Old.rfl (B := h.size).ext (hx4.trans hx5) (Nat.le_refl _)).upd hu6 (by omega)).toExt
  · obtain rfl : i = f.length := by omega
    rw [List.take_length, Nat.sub_self, List.replicate_zero, List.append_nil] at ho
    refine ⟨hx2, ?_⟩
    have := OwnP.poly (p := negP f) (h := h2) (base := h.size) (v := .slice (some ⟨lb, 0, none⟩) f.length f.length) ho
    exact this
end Go.Vc
