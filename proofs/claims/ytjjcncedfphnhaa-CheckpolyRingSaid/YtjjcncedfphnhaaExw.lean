/- checkpoly.exact: the walk. -/
import Derived.Test.YtjjcncedfphnhaaAo
namespace Go.Vc
open Go.Proofs

set_option maxHeartbeats 6400000 in
theorem exact_any (H B : Nat) (hB : B ≤ 1000000) (h : Heap) (v1 v2 : Value) (f g : Pol) (hf : PolyAt h v1 f) (hg : PolyAt h v2 g) (hcf : Canon f) (hcg : Canon g) (hfB : ExpB f B) (hgB : ExpB g B) (hH : H ≤ 100)
    (hdiff : ∀ fh gh, IsHi f fh → IsHi g gh → ∀ k, k < 4 → fh.getD k 0 ≤ gh.getD k 0 + H)
    (hlead : ∀ t ∈ g, t.1.natAbs < 4294967296) (hng : norm1 g < big) (hlg : g.length < 1000) (hlf : f.length < 10000)
    (hn : norm1 f * (1 + norm1 g) ^ ((H + 1) * ((H + 1) * ((H + 1) * (H + 1))) + 1) < huge) (hlen : ((H + 1) * ((H + 1) * ((H + 1) * (H + 1))) + 1) * g.length < 1000000) :
    Spec E.P f_checkpoly_exact #[v1, v2] h (fun v' h' => Ext h h' ∧ ∃ w q ok, v' = .tuple #[w, .bool ok] ∧ PolyAt h' w q ∧ ExactP f g q ok H) := by
  have hf0 := hf
  have hg0 := hg
  obtain ⟨a, cap, rfl, hcap, hfA⟩ := hf
  obtain ⟨b, cap2, rfl, hcap2, hgA⟩ := hg
  refine Spec.intro hE (args := [_, _]) F_checkpoly_exact rfl rfl (Nat.le_of_ble_eq_true rfl) ?_
  refine bsp.dec (p := (g.length : Int) = 0) (fun hz => ?_) (fun hz => ?_)
  · have hg1 : g = [] := List.eq_nil_of_length_eq_zero (by omega)
    exact ⟨Ext.rfl, _, [], false, rfl, PolyAt.nil _, fun e => (by cases e), fun _ => ⟨rfl, fun hne => absurd hg1 hne⟩⟩
  have hgn : g ≠ [] := fun e => by subst e; simp at hz
  refine bsp.dec (p := (f.length : Int) = 0) (fun hz2 => ?_) (fun hz2 => ?_)
  · have hf1 : f = [] := List.eq_nil_of_length_eq_zero (by omega)
    subst hf1
    exact ⟨Ext.rfl, _, [], true, rfl, PolyAt.nil _, fun _ => ⟨hgn, ⟨Canon.nil, fun e => rfl⟩, fun _ h => (List.not_mem_nil h).elim, Nat.zero_le _⟩, fun e => (by cases e)⟩
  have hfn : f ≠ [] := fun e => by subst e; simp at hz2
  refine (ranges_any h _ f hf0 hfn (by omega)).mono ?_
  rintro _ h1 ⟨hx1, fl, fh, rfl, hfl, hfh⟩
  refine DNew.intro ?_
  intro lb h2 hlb hx2 hs2 hg2
  refine DNew.intro ?_
  intro hb h3 hhb hx3 hs3 hg3
  have one : ∀ l : List Nat, (expV l).all Value.oneCell' = true := fun l => by simp [expV, Value.oneCell']
  refine DStore.full (hx3.at hg2) rfl (by rw [expV_len]; exact hfl.1) rfl (one fl) ?_
  intro h4 hu4
  refine DStore.full (hu4.at_ne hg3 (by omega)) rfl (by rw [expV_len]; exact hfh.1) rfl (one fh) ?_
  intro h5 hu5
  have z1 := hx1.size
  have o5 : Old h.size h h5 := (((Old.rfl).ext (hx1.trans (hx2.trans hx3)) (Nat.le_refl _)).upd hu4 (by omega)).upd hu5 (by omega)
  have wl5 : Whole h5 lb t_ar4_int (expV fl) := hu5.at_ne hu4.at_ (by omega)
  have wh5 : Whole h5 hb t_ar4_int (expV fh) := hu5.at_
  refine (ranges_any h5 _ g (hg0.ext o5.toExt) hgn (by omega)).mono ?_
  rintro _ h6 ⟨hx6, gl, gh, rfl, hgl, hgh⟩
  refine DNew.intro ?_
  intro glb h7 hglb hx7 hs7 hg7
  refine DNew.intro ?_
  intro ghb h8 hghb hx8 hs8 hg8
  refine DStore.full (hx8.at hg7) rfl (by rw [expV_len]; exact hgl.1) rfl (one gl) ?_
  intro h9 hu9
  refine DStore.full (hu9.at_ne hg8 (by omega)) rfl (by rw [expV_len]; exact hgh.1) rfl (one gh) ?_
  intro h10 hu10
  have z3 := hx2.size
  have z5 := hu4.size
  have z6 := hu5.size
  have z7 := hx6.size
  have o10 : Old h.size h h10 := ((o5.ext (hx6.trans (hx7.trans hx8)) (Nat.le_refl _)).upd hu9 (by omega)).upd hu10 (by omega)
  have wl10 : Whole h10 lb t_ar4_int (intV (fl.map Int.ofNat)) := by
    have e : intV (fl.map Int.ofNat) = expV fl := by simp [intV, expV]
    rw [e]; exact hu10.at_ne (hu9.at_ne ((hx6.trans (hx7.trans hx8)).at wl5) (by omega)) (by omega)
  have wh10 : Whole h10 hb t_ar4_int (intV (fh.map Int.ofNat)) := by
    have e : intV (fh.map Int.ofNat) = expV fh := by simp [intV, expV]
    rw [e]; exact hu10.at_ne (hu9.at_ne ((hx6.trans (hx7.trans hx8)).at wh5) (by omega)) (by omega)
  have wgl10 : Whole h10 glb t_ar4_int (expV gl) := hu10.at_ne hu9.at_ (by omega)
  have wgh10 : Whole h10 ghb t_ar4_int (expV gh) := hu10.at_
  have hgh4 := hgh.1
  have hgl4 := hgl.1
  have hfl4 := hfl.1
  have hfh4 := hfh.1
  refine DLoop.intro hE (ι := Nat × List Int × List Int) (fun s => [(32, .int .i64 s.1), (6, .pointer (some ⟨lb, 0, none⟩)), (7, .pointer (some ⟨hb, 0, none⟩)), (8, .pointer (some ⟨glb, 0, none⟩)), (9, .pointer (some ⟨ghb, 0, none⟩)), (0, .slice a f.length cap), (1, .slice b g.length cap2)])
    (fun s h' => Old h.size h h' ∧ h'.size = h10.size ∧ s.1 ≤ 4 ∧ s.2.1.length = 4 ∧ s.2.2.length = 4 ∧ Whole h' lb t_ar4_int (intV s.2.1) ∧ Whole h' hb t_ar4_int (intV s.2.2) ∧ Whole h' glb t_ar4_int (expV gl) ∧ Whole h' ghb t_ar4_int (expV gh) ∧
      ∀ j, j < 4 → s.2.1.getD j 0 = (fl.getD j 0 : Int) - (if j < s.1 then (gl.getD j 0 : Int) else 0) ∧ s.2.2.getD j 0 = (fh.getD j 0 : Int) - (if j < s.1 then (gh.getD j 0 : Int) else 0) ∧ (j < s.1 → 0 ≤ s.2.1.getD j 0 ∧ s.2.1.getD j 0 ≤ s.2.2.getD j 0)) (fun s => 4 - s.1) (0, fl.map Int.ofNat, fh.map Int.ofNat) rfl ⟨rfl, rfl, rfl, rfl, rfl, rfl, rfl, trivial⟩
    ⟨o10, rfl, Nat.zero_le _, by simpa using hfl4, by simpa using hfh4, wl10, wh10, wgl10, wgh10, ?_⟩ ?_
  · intro j hj
    dsimp only
    have e : ∀ l : List Nat, l.length = 4 → (l.map Int.ofNat).getD j 0 = (l.getD j 0 : Int) := fun l hl => by
      rw [List.getD_eq_getElem?_getD, List.getD_eq_getElem?_getD, List.getElem?_map, List.getElem?_eq_getElem (by omega)]; rfl
    rw [e fl hfl4, e fh hfh4, if_neg (Nat.not_lt_zero _), if_neg (Nat.not_lt_zero _)]
    exact ⟨by omega, by omega, fun h => absurd h (Nat.not_lt_zero _)⟩
  rintro ⟨i, L, U⟩ h11 ⟨o11, hsz11, hi, hL, hU, wl, wh, wgl, wgh, hval⟩
  dsimp only at hi hL hU wl wh hval ⊢
  refine bsp.dec (fun hlt => ?_) (fun hlt => ?_)
  · have hi4 : i < 4 := by omega
    have hiL : i < L.length := by omega
    have hiU : i < U.length := by omega
    have higl : i < gl.length := by omega
    have high : i < gh.length := by omega
    refine DDraw.intro hE (.take 0 (.take 1 (.take 3 (.take 4 (.take 2 (.take 5 (.take 6 (.take 7 (.one 8 .done))))))))) (some 8) (fun h' => h' = h11) (by kernel_rfl) rfl ?_
    refine DIdx.intro i rfl rfl hi4 ?_
    refine DIdx.intro i rfl rfl hi4 ?_
    refine QLoad.scalar (fun _ e => by rw [e]; exact wl.get _ (by rw [Nat.zero_add]; exact intV_get hiL)) ?_
    refine QLoad.scalar (fun _ e => by rw [e]; exact wgl.get _ (by rw [Nat.zero_add]; exact expV_get higl)) ?_
    have gD : ∀ {α : Type} (l : List α) (d : α) (hk : i < l.length), l.getD i d = l[i] := fun l d hk => by rw [List.getD_eq_getElem?_getD, List.getElem?_eq_getElem hk]; rfl
    have b1 := hfl.le hcf.l4 hfB hi4
    have b2 := hgl.le hcg.l4 hgB hi4
    have b3 := hfh.le hcf.l4 hfB hi4
    have b4 := hgh.le hcg.l4 hgB hi4
    have hv := hval i hi4
    rw [if_neg (by omega), if_neg (by omega), gD L 0 hiL, gD U 0 hiU] at hv
    rw [gD gl 0 higl] at b2
    rw [gD gh 0 high] at b4
    refine DWrap.is (L[i] - (gl[i] : Int)) rfl (by omega) ?_
    refine DIdx.intro i rfl rfl hi4 ?_
    refine DStore.part (vs := [.int .i64 (L[i] - (gl[i] : Int))]) (intV (L.set i (L[i] - (gl[i] : Int)))) wl rfl rfl (by simp [intV]; omega) rfl (by rw [Nat.zero_add]; exact spliceI hiL) ?_
    intro h12 hu12 wl12
    have wh12 : Whole h12 hb t_ar4_int (intV U) := hu12.at_ne wh (by omega)
    have wgh12 : Whole h12 ghb t_ar4_int (expV gh) := hu12.at_ne wgh (by omega)
    have wgl12 : Whole h12 glb t_ar4_int (expV gl) := hu12.at_ne wgl (by omega)
    refine DDraw.intro hE (.take 0 (.take 1 (.take 3 (.take 4 (.take 2 (.take 5 (.take 6 (.take 7 (.one 8 .done))))))))) (some 8) (fun h' => h' = h12) (by kernel_rfl) rfl ?_
    refine DIdx.intro i rfl rfl hi4 ?_
    refine DIdx.intro i rfl rfl hi4 ?_
    refine QLoad.scalar (fun _ e => by rw [e]; exact wh12.get _ (by rw [Nat.zero_add]; exact intV_get hiU)) ?_
    refine QLoad.scalar (fun _ e => by rw [e]; exact wgh12.get _ (by rw [Nat.zero_add]; exact expV_get high)) ?_
    refine DWrap.is (U[i] - (gh[i] : Int)) rfl (by omega) ?_
    refine DIdx.intro i rfl rfl hi4 ?_
    refine DStore.part (vs := [.int .i64 (U[i] - (gh[i] : Int))]) (intV (U.set i (U[i] - (gh[i] : Int)))) wh12 rfl rfl (by simp [intV]; omega) rfl (by rw [Nat.zero_add]; exact spliceI hiU) ?_
    intro h13 hu13 wh13
    have wl13 : Whole h13 lb t_ar4_int _ := hu13.at_ne wl12 (by omega)
    have wgl13 : Whole h13 glb t_ar4_int (expV gl) := hu13.at_ne wgl12 (by omega)
    have wgh13 : Whole h13 ghb t_ar4_int (expV gh) := hu13.at_ne wgh12 (by omega)
    have o13 : Old h.size h h13 := (o11.upd hu12 (by omega)).upd hu13 (by omega)
    refine DDraw.intro hE (.take 0 (.take 1 (.take 2 (.take 3 (.take 4 (.take 5 (.take 6 (.take 8 (.take 9 (.take 7 (.take 10 (.take 11 (.take 12 .done))))))))))))) none (fun h' => h' = h13) (by kernel_rfl) rfl ?_
    have hiL' : i < (L.set i (L[i] - (gl[i] : Int))).length := by simpa using hiL
    have hiU' : i < (U.set i (U[i] - (gh[i] : Int))).length := by simpa using hiU
    have eL : (L.set i (L[i] - (gl[i] : Int)))[i] = L[i] - (gl[i] : Int) := by simp
    have eU : (U.set i (U[i] - (gh[i] : Int)))[i] = U[i] - (gh[i] : Int) := by simp
    have cL : cell h13 lb (0 + i) = some (.int .i64 (L[i] - (gl[i] : Int))) := wl13.get _ (by rw [Nat.zero_add, intV_get hiL', eL])
    have cU : cell h13 hb (0 + i) = some (.int .i64 (U[i] - (gh[i] : Int))) := wh13.get _ (by rw [Nat.zero_add, intV_get hiU', eU])
    have hno : ¬ (gl.getD i 0 ≤ fl.getD i 0 ∧ (fl.getD i 0 : Int) - gl.getD i 0 ≤ (fh.getD i 0 : Int) - gh.getD i 0) → ∀ w, ¬ QuoOf f g w := fun hc w hw =>
      hc ⟨((quo_ranges hcf hcg hfn hw hfl hfh hgl hgh).2 i hi4).1, ((quo_ranges hcf hcg hfn hw hfl hfh hgl hgh).2 i hi4).2.1⟩
    have egl : gl.getD i 0 = gl[i] := gD gl 0 higl
    have egh : gh.getD i 0 = gh[i] := gD gh 0 high
    rw [egl, egh] at hno
    refine DIdx.intro i rfl rfl hi4 ?_
    refine QLoad.scalar (fun _ e => by rw [e]; exact cL) ?_
    conv => whnf
    cases hd : decide (L[i] - (gl[i] : Int) < 0) with
    | true =>
      have hd' := of_decide_eq_true hd
      refine ⟨o13.toExt, _, [], false, rfl, PolyAt.nil _, fun e => (by cases e), fun _ => ⟨rfl, fun _ => hno ?_⟩⟩
      omega
    | false =>
      have hd' := of_decide_eq_false hd
      refine DIdx.intro i rfl rfl hi4 ?_
      refine DIdx.intro i rfl rfl hi4 ?_
      refine QLoad.scalar (fun _ e => by rw [e]; exact cU) ?_
      refine QLoad.scalar (fun _ e => by rw [e]; exact cL) ?_
      refine bsp.dec (fun hbad => ?_) (fun hok => ?_)
      · refine ⟨o13.toExt, _, [], false, rfl, PolyAt.nil _, fun e => (by cases e), fun _ => ⟨rfl, fun _ => hno ?_⟩⟩
        omega
      · refine DWrap.is ((i + 1 : Nat) : Int) (by omega) (by omega) ?_
        refine ⟨(i + 1, L.set i (L[i] - (gl[i] : Int)), U.set i (U[i] - (gh[i] : Int))), ⟨rfl, rfl, rfl, rfl, rfl, rfl, rfl, trivial⟩, ⟨o13, by rw [hu13.size, hu12.size]; exact hsz11, by dsimp only; omega, by simpa using hL, by simpa using hU, wl13, wh13, wgl13, wgh13, ?_⟩, by dsimp only; omega⟩
        intro j hj
        dsimp only
        obtain ⟨v1, v2, v3⟩ := hval j hj
        by_cases hji : j = i
        · subst hji
          have e1 : (L.set j (L[j] - (gl[j] : Int))).getD j 0 = L[j] - (gl[j] : Int) := by rw [List.getD_eq_getElem?_getD, List.getElem?_set_self hiL]; rfl
          have e2 : (U.set j (U[j] - (gh[j] : Int))).getD j 0 = U[j] - (gh[j] : Int) := by rw [List.getD_eq_getElem?_getD, List.getElem?_set_self hiU]; rfl
          rw [e1, e2, if_pos (Nat.lt_succ_self _), if_pos (Nat.lt_succ_self _), egl, egh]
          omega
        · have e1 : (L.set i (L[i] - (gl[i] : Int))).getD j 0 = L.getD j 0 := by rw [List.getD_eq_getElem?_getD, List.getElem?_set_ne (fun h => hji h.symm), ← List.getD_eq_getElem?_getD]
          have e2 : (U.set i (U[i] - (gh[i] : Int))).getD j 0 = U.getD j 0 := by rw [List.getD_eq_getElem?_getD, List.getElem?_set_ne (fun h => hji h.symm), ← List.getD_eq_getElem?_getD]
          rw [e1, e2]
          by_cases hjl : j < i
          · rw [if_pos hjl] at v1 v2
            rw [if_pos (by omega), if_pos (by omega)]
            exact ⟨v1, v2, fun _ => v3 hjl⟩
          · rw [if_neg hjl] at v1 v2
            rw [if_neg (by omega), if_neg (by omega)]
            exact ⟨v1, v2, fun h => by omega⟩
  · obtain rfl : i = 4 := by omega
    obtain ⟨t0, g', rfl⟩ : ∃ t0 g', g = t0 :: g' := by
      match g, hgn with
      | t0 :: g', _ => exact ⟨t0, g', rfl⟩
    have hLU : ∀ j, j < 4 → 0 ≤ L.getD j 0 ∧ L.getD j 0 = (fl.getD j 0 : Int) - gl.getD j 0 ∧ U.getD j 0 = (fh.getD j 0 : Int) - gh.getD j 0 ∧ U.getD j 0 ≤ H := fun j hj => by
      obtain ⟨v1, v2, v3⟩ := hval j hj
      rw [if_pos hj] at v1 v2
      have := hdiff fh gh hfh hgh j hj
      have := (v3 hj).1
      exact ⟨this, v1, v2, by omega⟩
    have h0n := hcg.nz t0 (by simp)
    have h0b := hlead t0 (by simp)
    have h04 := hcg.l4 t0 (by simp)
    have hcnt : ∀ q, Canon q → ExpB q H → q.length ≤ (H + 1) * ((H + 1) * ((H + 1) * (H + 1))) := fun q h1 h2 => canon_count h1 h2
    generalize hCe : (H + 1) * ((H + 1) * ((H + 1) * (H + 1))) = C at *
    have hlen1 : C * g'.length + g'.length + (C + 1) < 1000000 := by
      have : (C + 1) * (t0 :: g').length = C * g'.length + g'.length + (C + 1) := by rw [List.length_cons, Nat.mul_add, Nat.mul_one, Nat.add_mul, Nat.one_mul]
      omega
    have hpow : ∀ n, n ≤ C + 1 → norm1 f * (1 + norm1 (t0 :: g')) ^ n < huge := fun n hn1 => Nat.lt_of_le_of_lt (Nat.mul_le_mul_left _ (Nat.pow_le_pow_right (by omega) hn1)) hn
    have x11 := o11.toExt
    refine DLoop.intro hE (ι := Value × Pol × Value × Pol) (fun s => [(0, s.1), (11, s.2.2.1), (1, .slice b (t0 :: g').length cap2), (6, .pointer (some ⟨lb, 0, none⟩)), (7, .pointer (some ⟨hb, 0, none⟩))])
      (fun s h' => Ext h h' ∧ PolyAt h' s.1 s.2.1 ∧ OwnP h' h.size s.2.2.1 s.2.2.2 ∧ (s.2.1 ≠ [] → ∀ k, s.2.2.1.ownBlock = some k → s.1.ownBlock ≠ some k) ∧ Whole h' lb t_ar4_int (intV L) ∧ Whole h' hb t_ar4_int (intV U) ∧ DivInv H B f t0 g' s.2.2.2 s.2.1) (fun s => C + 1 - s.2.2.2.length)
      (.slice a f.length cap, f, .slice none 0 0, []) rfl ⟨rfl, rfl, rfl, rfl, rfl, trivial⟩ ⟨x11, hf0.ext x11, OwnP.nil _ _, fun _ k hk => by simp [Value.ownBlock] at hk, wl, wh, DivInv.start hcf hfB⟩ ?_
    rintro ⟨fv, r, qv, q⟩ h12 ⟨hx12, hr, hq, hne, wl12, wh12, inv⟩
    dsimp only at hr hq hne wl12 wh12 inv ⊢
    have hr0 := hr
    obtain ⟨ra, rcap, rfl, ⟨hrc, -⟩, hrA⟩ := hr
    refine bsp.dec (p := (r.length : Int) > 0) (fun hpos => ?_) (fun hz3 => ?_)
    · obtain ⟨u, r', rfl⟩ : ∃ u r', r = u :: r' := by
        match r, hpos with
        | u :: r', _ => exact ⟨u, r', rfl⟩
        | [], h => simp at h
      obtain ⟨rb, ro, rfl, hrc0⟩ := hrA (by simp)
      obtain ⟨cs1, ht1, hcs1⟩ := hrc0 0 (by simp)
      obtain ⟨gb, go, rfl, hgc0⟩ := hgA (by simp)
      obtain ⟨cs2, ht2, hcs2⟩ := hgc0 0 (by simp)
      simp only [List.getElem_cons_zero, Nat.zero_mul, Nat.add_zero] at ht1 hcs1 ht2 hcs2
      have hql := hcnt q inv.cq inv.qB
      have hX : norm1 (u :: r') * (1 + norm1 (t0 :: g')) < huge := by
        refine Nat.lt_of_le_of_lt ?_ (hpow (q.length + 1) (by omega))
        rw [Nat.pow_succ, ← Nat.mul_assoc]
        exact Nat.mul_le_mul_right _ (Nat.le_trans (Nat.le_add_left _ _) inv.norm)
      rw [Nat.mul_add, Nat.mul_one] at hX
      have hXe : norm1 (u :: r') = u.1.natAbs + norm1 r' := rfl
      have hGe : norm1 (t0 :: g') = t0.1.natAbs + norm1 g' := rfl
      have hu1 : u.1.natAbs < huge := by omega
      have hdu := digs_huge hu1
      have hQ := fun (hh : Heap) (e : Ext h12 hh) => quotient_any hh cs1 cs2 u t0 (ht1.ext e) (ht2.ext (hx12.trans e)) (by omega) h0n h0b B (by omega) (fun x hx => inv.rB u (by simp) x hx) (fun x hx => hgB t0 (by simp) x hx)
      refine DDraw.cut (ι := Nat × Term1 × Bool) (fun s => [(12, .pointer (some ⟨s.1, 0, none⟩)), (13, .bool s.2.2), (0, .slice (some ⟨rb, ro, none⟩) (u :: r').length rcap), (11, qv), (1, .slice (some ⟨gb, go, none⟩) (t0 :: g').length cap2), (6, .pointer (some ⟨lb, 0, none⟩)), (7, .pointer (some ⟨hb, 0, none⟩))])
        (fun s h' => Ext h12 h' ∧ h12.size ≤ s.1 ∧ ∃ cs, Whole h' s.1 t_checkpoly_Term cs ∧ TermAt h' cs s.2.1 ∧ QuotT u t0 s.2.1 s.2.2) ?_ ?_
      · refine DDraw.intro hE (.take 0 (.take 1 (.take 3 (.take 4 (.take 2 (.take 5 (.two 6 10 (.take 7 (.take 8 (.take 9 (.one 10 (.one 11 (.take 12 .done)))))) (.one 6 (.take 7 (.take 8 (.take 9 (.one 11 (.take 12 .done)))))))))))))
          (some 11) (Ext h12 ·) (by kernel_rfl) Ext.rfl ?_
        refine DIdx.intro 0 rfl rfl (by simp) ?_
        refine DIdx.intro 0 rfl rfl (by simp) ?_
        refine QLoad.agg cs1 ht1.len (fun _ e => hcs1.ext e) ?_
        refine QLoad.agg cs2 ht2.len (fun _ e => hcs2.ext (hx12.trans e)) ?_
        refine ⟨?_, ?_⟩
        · refine (hQ h12 Ext.rfl).mono ?_
          rintro _ h13 ⟨hx13, cs, t, ok, rfl, htt, hqt⟩
          refine ⟨hx13, ?_⟩
          refine DNew.intro ?_
          intro tb h14 htb hx14 hs14 hg14
          refine ⟨hx13.trans hx14, ?_⟩
          refine DStore.full hg14 rfl htt.len rfl htt.ones ?_
          intro h15 hu15
          have hs13 := hx13.size
          exact ⟨(tb, t, ok), ⟨rfl, rfl, rfl, rfl, rfl, rfl, rfl, trivial⟩, (((Old.rfl (B := h12.size)).ext (hx13.trans hx14) (Nat.le_refl _)).upd hu15 (by omega)).toExt, by dsimp only; omega, cs, hu15.at_, (htt.ext hx14).u32 (hu15.u32 hg14 (by decide)), hqt⟩
        · refine DNew.intro ?_
          intro tb h13 htb hx13 hs13 hg13
          refine ⟨hx13, ?_⟩
          refine (hQ h13 hx13).mono ?_
          rintro _ h14 ⟨hx14, cs, t, ok, rfl, htt, hqt⟩
          refine ⟨hx13.trans hx14, ?_⟩
          refine DStore.full (hx14.at hg13) rfl htt.len rfl htt.ones ?_
          intro h15 hu15
          exact ⟨(tb, t, ok), ⟨rfl, rfl, rfl, rfl, rfl, rfl, rfl, trivial⟩, (((Old.rfl (B := h12.size)).ext (hx13.trans hx14) (Nat.le_refl _)).upd hu15 (by omega)).toExt, by dsimp only; omega, cs, hu15.at_, htt.u32 (hu15.u32 (hx14.at hg13) (by decide)), hqt⟩
      rintro ⟨tb, t, ok⟩ h13 ⟨hx13, htb, cs, wt, htt, hqt⟩
      dsimp only at htb wt htt hqt ⊢
      have hx013 := hx12.trans hx13
      cases ok with
      | false =>
        refine ⟨hx013, _, [], false, rfl, PolyAt.nil _, fun e => (by cases e), fun _ => ⟨rfl, fun _ w hw => ?_⟩⟩
        obtain ⟨t', r2, -, h2, h4, -, -⟩ := inv.next hcg hw
        exact hqt.2 rfl t' h4 h2
      | true =>
        have hut : u = tmul t t0 := hqt.1 rfl
        have ht4 : t.2.length = 4 := htt.1
        have hue : u.2 = addE t.2 t0.2 := by rw [hut]; rfl
        have hu1e : u.1 = t.1 * t0.1 := by rw [hut]; rfl
        have hbad : ∀ k, k < 4 → ¬ (L.getD k 0 ≤ (t.2.getD k 0 : Int) ∧ (t.2.getD k 0 : Int) ≤ U.getD k 0) → ∀ w, ¬ QuoOf f (t0 :: g') w := by
          intro k hk hc w hw
          obtain ⟨t', r2, -, h2, h4, hm, -⟩ := inv.next hcg hw
          have e2 : t'.2 = t.2 := addE_cancel h4 ht4 h04 (by rw [← hue, h2]; rfl)
          have := ((quo_ranges hcf hcg hfn hw hfl hfh hgl hgh).2 k hk).2.2 t' hm
          rw [e2] at this
          obtain ⟨-, l2, l3, -⟩ := hLU k hk
          rw [l2, l3] at hc
          exact hc this
        have hL13 : Whole h13 lb t_ar4_int (intV L) := hx13.at wl12
        have hU13 : Whole h13 hb t_ar4_int (intV U) := hx13.at wh12
        refine DLoad.agg (expV t.2) (by rw [expV_len]; exact ht4) (htt.exps (h' := h13) (Whole.cellsAt wt)) ?_
        refine DLoop.intro hE (ι := Nat) (fun k => [(82, .int .i64 k), (81, .agg (expV t.2).toArray), (12, .pointer (some ⟨tb, 0, none⟩)), (0, .slice (some ⟨rb, ro, none⟩) (u :: r').length rcap), (11, qv), (1, .slice (some ⟨gb, go, none⟩) (t0 :: g').length cap2), (6, .pointer (some ⟨lb, 0, none⟩)), (7, .pointer (some ⟨hb, 0, none⟩))])
          (fun k h' => h' = h13 ∧ k ≤ 4 ∧ ∀ j, j < k → L.getD j 0 ≤ (t.2.getD j 0 : Int) ∧ (t.2.getD j 0 : Int) ≤ U.getD j 0) (fun k => 4 - k) 0 rfl ⟨rfl, rfl, rfl, rfl, rfl, rfl, rfl, rfl, trivial⟩ ⟨rfl, Nat.zero_le _, fun j hj => absurd hj (Nat.not_lt_zero _)⟩ ?_
        rintro k h14 ⟨rfl, hk, hin⟩
        refine bsp.dec (fun hlt => ?_) (fun hge => ?_)
        · have hk4 : k < 4 := by omega
          have hkL : k < L.length := by omega
          have hkU : k < U.length := by omega
          have hkt : k < t.2.length := by omega
          have gD : ∀ {α : Type} (l : List α) (d : α) (hk : k < l.length), l.getD k d = l[k] := fun l d hk => by rw [List.getD_eq_getElem?_getD, List.getElem?_eq_getElem hk]; rfl
          have hbk := hbad k hk4
          rw [gD L 0 hkL, gD U 0 hkU, gD t.2 0 hkt] at hbk
          refine index_run t.2 k ht4 hk4 ?_
          refine DIdx.intro k rfl rfl hk4 ?_
          refine DLoad.scalar (hL13.get _ (by rw [Nat.zero_add]; exact intV_get hkL)) ?_
          conv => whnf
          cases hd : decide ((t.2[k] : Int) < L[k]) with
          | true =>
            have hd' := of_decide_eq_true hd
            refine ⟨hx013, _, [], false, rfl, PolyAt.nil _, fun e => (by cases e), fun _ => ⟨rfl, fun _ => hbk (by omega)⟩⟩
          | false =>
            have hd' := of_decide_eq_false hd
            refine DIdx.intro k rfl rfl hk4 ?_
            refine DLoad.scalar (hU13.get _ (by rw [Nat.zero_add]; exact intV_get hkU)) ?_
            refine bsp.dec (fun hb => ?_) (fun hok => ?_)
            · refine ⟨hx013, _, [], false, rfl, PolyAt.nil _, fun e => (by cases e), fun _ => ⟨rfl, fun _ => hbk (by omega)⟩⟩
            · refine DWrap.is ((k + 1 : Nat) : Int) (by omega) (by omega) ?_
              refine ⟨k + 1, ⟨rfl, rfl, rfl, rfl, rfl, rfl, rfl, rfl, trivial⟩, ⟨rfl, by omega, fun j hj => ?_⟩, by omega⟩
              by_cases hjk : j = k
              · subst hjk
                rw [gD L 0 hkL, gD U 0 hkU, gD t.2 0 hkt]; omega
              · exact hin j (by omega)
        · obtain rfl : k = 4 := by omega
          have gDn : ∀ (l : List Nat) (j : Nat) (hj : j < l.length), l.getD j 0 = l[j] := fun l j hj => by rw [List.getD_eq_getElem?_getD, List.getElem?_eq_getElem hj]; rfl
          have htH : ∀ x ∈ t.2, x ≤ H := fun x hx => by
            obtain ⟨j, hj, rfl⟩ := List.getElem_of_mem hx
            have h1 := hin j (by omega)
            have h2 := hLU j (by omega)
            rw [gDn t.2 j hj] at h1
            omega
          have htB : ExpB (g'.map fun b => tmul b (-t.1, t.2)) B := fun s hs x hx => by
            obtain ⟨b', hb', rfl⟩ := List.mem_map.1 hs
            have hbl := hcg.l4 b' (by simp [hb'])
            have hx' : x ∈ addE b'.2 t.2 := hx
            obtain ⟨j, hj, rfl⟩ := List.getElem_of_mem hx'
            simp only [addE, List.length_zipWith] at hj
            have hj4 : j < 4 := by omega
            simp only [addE, List.getElem_zipWith]
            have h1 := (hin j hj4).2
            have h2 := (hLU j hj4).2.2.1
            have h3 := (hgh.2 j hj4).1 b' (by simp [hb'])
            have h5 := hfh.le hcf.l4 hfB hj4
            rw [gDn t.2 j (by omega)] at h1
            rw [gDn b'.2 j (by omega)] at h3
            omega
          obtain ⟨aa, cc, e0, e1, e2, e3, he, rfl, -⟩ := id htt.form
          refine DLoad.agg _ rfl wt.cellsAt ?_
          refine ⟨⟨rfl, by decide, rfl, rfl, trivial⟩, ?_⟩
          refine DNew.intro ?_
          intro nb h15 hnb hx15 hs15 hg15
          have hq15 := (hq.ext hx13).ext hx15
          have hx015 := hx013.trans hx15
          refine DRun.term2 (ti := ⟨.slice t_checkpoly_Term, 1, 24, .slice none 0 0⟩) rfl rfl hq15 hg15 (htt.ext hx15) (by omega) hx015.size ?_
          intro v5 h16 ho16 hgr hu16 hblk
          have hqlt : ∀ k, qv.ownBlock = some k → k < h12.size := fun k hk => (hq.block hk).2.1
          have hx016 : Ext h h16 := ((Old.rfl (B := h.size).ext hx015 (Nat.le_refl _)).grown hgr (Nat.le_refl _) fun k hk => (hq.block hk).1).toExt
          have s13 := hx13.size
          have hL16 : Whole h16 lb t_ar4_int (intV L) := hgr.at (hx15.at hL13) fun e => by
            obtain ⟨-, -, c, hc⟩ := hq15.block e.symm
            rw [show h15[lb]? = _ from hx15.at hL13] at hc
            injection hc with hc
            injection hc with _ hc _
            exact absurd hc (by decide)
          have hU16 : Whole h16 hb t_ar4_int (intV U) := hgr.at (hx15.at hU13) fun e => by
            obtain ⟨-, -, c, hc⟩ := hq15.block e.symm
            rw [show h15[hb]? = _ from hx15.at hU13] at hc
            injection hc with hc
            injection hc with _ hc _
            exact absurd hc (by decide)
          have hT16 := hgr.at (hx15.at wt) fun e => by have := hqlt _ e.symm; omega
          have hr13 : PolyAt h15 (.slice (some ⟨rb, ro, none⟩) (u :: r').length rcap) (u :: r') := hr0.ext (hx13.trans hx15)
          have hr16 := hr13.away hgr hu16 fun hn k hk => hne hn k hk
          have htt16 := (htt.ext hx15).u32 hu16
          have wT16 : Whole h16 tb t_checkpoly_Term _ := hT16
          obtain ⟨cv, hcv, hlv, hiv⟩ := htt16.coef wT16.cellsAt
          have ht1le : t.1.natAbs ≤ u.1.natAbs := by
            rw [hu1e, Int.natAbs_mul]; exact Nat.le_mul_of_pos_right _ (by omega)
          have hdt := digs_huge (z := t.1) (by omega)
          refine DDraw.intro hE (.take 0 (.take 1 (.take 2 (.take 3 (.take 4 (.take 7 (.take 5 (.take 8 (.one 6 (.take 9 (.one 10 (.one 11 (.take 12 .done))))))))))))) none (Ext h16 ·) (by kernel_rfl) Ext.rfl ?_
          refine DSlice.intro 1 (u :: r').length rfl rfl (by simp) (by omega) ?_
          refine DSlice.intro 1 (t0 :: g').length rfl rfl (by simp) (by omega) ?_
          refine QLoad.agg cv hlv (fun _ e => hcv.ext e) ?_
          refine QLoad.agg (expV t.2) (by rw [expV_len]; exact ht4) (fun _ e => (htt16.exps wT16.cellsAt).ext e) ?_
          refine (Neg_any h16 _ _ hiv (by omega)).mono ?_
          rintro v6 h17 ⟨hx17, hi17⟩
          refine ⟨hx17, ?_⟩
          have hi170 := hi17
          obtain ⟨a6, cap6, rfl, -⟩ := hi17
          have ht17 : TermAt h17 [.bool (decide (-t.1 < 0)), .slice a6 (digs (-t.1).natAbs).length cap6, .int .i64 (e0 : Nat), .int .i64 (e1 : Nat), .int .i64 (e2 : Nat), .int .i64 (e3 : Nat)] (-t.1, t.2) := ⟨ht4, _, _, by rw [he]; rfl, hi170⟩
          rw [he]
          refine DPure.build [.bool (decide (-t.1 < 0)), .slice a6 (digs (-t.1).natAbs).length cap6, .int .i64 (e0 : Nat), .int .i64 (e1 : Nat), .int .i64 (e2 : Nat), .int .i64 (e3 : Nat)] (by kernel_rfl) ?_
          rw [← he]
          have hgt : PolyAt h17 _ g' := ((hg0.ext hx016).tail (by simp)).ext hx17
          have hnt := norm1_times g' (-t.1, t.2)
          have hnt2 : norm1 g' * (-t.1).natAbs ≤ norm1 (u :: r') * norm1 (t0 :: g') := by
            rw [Nat.mul_comm, Int.natAbs_neg]; exact Nat.mul_le_mul (by omega) (by omega)
          have hnt3 : norm1 (g'.map fun b => tmul b (-t.1, t.2)) = norm1 g' * (-t.1).natAbs := hnt
          have hH2 : ∀ x ∈ t.2, x ≤ B + H := fun x hx => by have := htH x hx; omega
          refine (times_own h17 _ _ g' (-t.1, t.2) hgt ht17 (B + H) (by omega) (fun s hs x hx => by have := hgB s (by simp [hs]) x hx; omega) hH2 (Nat.lt_trans (by omega) big_huge) (by rw [Int.natAbs_neg]; omega) (.inl (by omega)) (by omega)).mono ?_
          rintro v7 h18 ⟨hx18, ho18⟩
          refine ⟨hx17.trans hx18, ?_⟩
          have hcg' : Canon g' := hcg.tail
          have hct : Canon (g'.map fun b => tmul b (-t.1, t.2)) := canon_times hcg' (by
            intro h0
            have h0' : -t.1 = 0 := h0
            have h1' : t.1 = 0 := by omega
            exact inv.cr.nz u (by simp) (by rw [hu1e, h1', Int.zero_mul])) ht4
          have hlr := inv.len
          have hlqg : q.length * g'.length ≤ C * g'.length := Nat.mul_le_mul_right _ hql
          have hrt : PolyAt h18 _ r' := (hr16.tail (by simp)).ext (hx17.trans hx18)
          refine (add_own h18 _ v7 r' (g'.map fun b => tmul b (-t.1, t.2)) hrt ho18.poly inv.cr.tail hct (by omega) (by simp only [List.length_map, List.length_cons] at *; omega)).mono ?_
          rintro v8 h19 ⟨hx19, z, hz, hsum, hown⟩
          refine ⟨hx17.trans (hx18.trans hx19), ?_⟩
          have hx1619 := hx17.trans (hx18.trans hx19)
          have s15 := hx15.size
          have s16 := hgr.size
          have s17 := hx17.size
          have s18 := hx18.size
          refine ⟨(v8, z, v5, q ++ [t]), ⟨rfl, rfl, rfl, rfl, rfl, trivial⟩, ⟨hx016.trans hx1619, hz, ho16.ext hx1619, ?_, hx1619.at hL16, hx1619.at hU16, inv.step hcg hut ht4 htH htB hsum⟩, ?_⟩
          · intro hzn k hk hk8
            dsimp only at hzn hk hk8
            have hk16 := (ho16.block hk).2.1
            rcases hown with ho | rfl | rfl
            · have := (ho.block hk8).1; omega
            · have hk9 := slV_block (len := (u :: r').length) hk8
              have hlt : k < h15.size := hr13.lt (by simp) hk9
              rcases hblk k hk with h1 | h1
              · exact hne (by simp) k h1 hk9
              · omega
            · have := (ho18.block hk8).1; omega
          · have hlq := hcnt (q ++ [t]) (inv.step hcg hut ht4 htH htB hsum).cq (inv.step hcg hut ht4 htH htB hsum).qB
            simp only [List.length_append, List.length_cons, List.length_nil] at hlq ⊢
            omega
    · obtain rfl : r = [] := List.eq_nil_of_length_eq_zero (by omega)
      exact ⟨hx12, _, q, true, rfl, hq.poly, fun _ => ⟨hgn, ⟨inv.cq, fun e => by rw [inv.eq e]; simp [cf]⟩, inv.qB, by
        rw [hCe]
        exact Nat.le_trans (Nat.le_trans (Nat.le_add_right _ _) inv.norm) (Nat.mul_le_mul_left _ (Nat.pow_le_pow_right (by omega) (by have := hcnt q inv.cq inv.qB; omega)))⟩, fun e => (by cases e)⟩
end Go.Vc
