/- checkpoly.ranges: the least and the greatest exponents. -/
import Derived.Test.YtjjcncedfphnhaaQt
namespace Go.Vc
open Go.Proofs

/-- the lists where the first k places are those of the operation g -/
def midO (g : Nat → Nat → Nat) (a b : List Nat) (k : Nat) : List Nat := (List.zipWith g a b).take k ++ a.drop k
theorem midO_len {g : Nat → Nat → Nat} {a b : List Nat} (ha : a.length = 4) (hb : b.length = 4) {k : Nat} (hk : k ≤ 4) : (midO g a b k).length = 4 := by
  simp [midO, ha, hb]; omega
theorem midO_get {g : Nat → Nat → Nat} {a b : List Nat} (ha : a.length = 4) (hb : b.length = 4) {k : Nat} (hk : k < 4) : (midO g a b k)[k]'(by rw [midO_len ha hb (by omega)]; exact hk) = a[k]'(by omega) := by
  unfold midO
  rw [List.getElem_append_right (by simp; omega)]
  simp [ha, hb, show min k 4 = k by omega]
theorem midO_set {g : Nat → Nat → Nat} {a b : List Nat} (ha : a.length = 4) (hb : b.length = 4) {k : Nat} (hk : k < 4) : (midO g a b k).set k (g (a[k]'(by omega)) (b[k]'(by omega))) = midO g a b (k + 1) := by
  obtain ⟨a0, a1, a2, a3, rfl⟩ := four ha
  obtain ⟨b0, b1, b2, b3, rfl⟩ := four hb
  match k, hk with
  | 0, _ => rfl
  | 1, _ => rfl
  | 2, _ => rfl
  | 3, _ => rfl
theorem midO_end {g : Nat → Nat → Nat} {a b : List Nat} (ha : a.length = 4) (hb : b.length = 4) : midO g a b 4 = List.zipWith g a b := by
  obtain ⟨a0, a1, a2, a3, rfl⟩ := four ha
  obtain ⟨b0, b1, b2, b3, rfl⟩ := four hb
  rfl

/-- the least exponents -/
def IsLo (f : Pol) (lo : List Nat) : Prop := lo.length = 4 ∧ ∀ k, k < 4 → (∀ t ∈ f, lo.getD k 0 ≤ t.2.getD k 0) ∧ ∃ t ∈ f, t.2.getD k 0 = lo.getD k 0
/-- the greatest exponents -/
def IsHi (f : Pol) (hi : List Nat) : Prop := hi.length = 4 ∧ ∀ k, k < 4 → (∀ t ∈ f, t.2.getD k 0 ≤ hi.getD k 0) ∧ ∃ t ∈ f, t.2.getD k 0 = hi.getD k 0

theorem zip_getD {g : Nat → Nat → Nat} {a b : List Nat} (ha : a.length = 4) (hb : b.length = 4) {k : Nat} (hk : k < 4) : (List.zipWith g a b).getD k 0 = g (a.getD k 0) (b.getD k 0) := by
  obtain ⟨a0, a1, a2, a3, rfl⟩ := four ha
  obtain ⟨b0, b1, b2, b3, rfl⟩ := four hb
  match k, hk with
  | 0, _ => rfl
  | 1, _ => rfl
  | 2, _ => rfl
  | 3, _ => rfl

theorem IsLo.one {t : Term1} (h : t.2.length = 4) : IsLo [t] t.2 := ⟨h, fun k _ => ⟨by simp, t, by simp, rfl⟩⟩
theorem IsHi.one {t : Term1} (h : t.2.length = 4) : IsHi [t] t.2 := ⟨h, fun k _ => ⟨by simp, t, by simp, rfl⟩⟩
theorem IsLo.snoc {f : Pol} {lo : List Nat} {t : Term1} (hl : IsLo f lo) (h : t.2.length = 4) : IsLo (f ++ [t]) (List.zipWith min lo t.2) := by
  refine ⟨by simp [hl.1, h], fun k hk => ?_⟩
  obtain ⟨h1, u, hu, he⟩ := hl.2 k hk
  rw [zip_getD hl.1 h hk]
  refine ⟨fun s hs => ?_, ?_⟩
  · rcases List.mem_append.1 hs with hs | hs
    · have := h1 s hs; omega
    · rw [List.mem_singleton.1 hs]; omega
  · rcases Nat.le_total (lo.getD k 0) (t.2.getD k 0) with hc | hc
    · exact ⟨u, by simp [hu], by omega⟩
    · exact ⟨t, by simp, by omega⟩
theorem IsHi.snoc {f : Pol} {lo : List Nat} {t : Term1} (hl : IsHi f lo) (h : t.2.length = 4) : IsHi (f ++ [t]) (List.zipWith max lo t.2) := by
  refine ⟨by simp [hl.1, h], fun k hk => ?_⟩
  obtain ⟨h1, u, hu, he⟩ := hl.2 k hk
  rw [zip_getD hl.1 h hk]
  refine ⟨fun s hs => ?_, ?_⟩
  · rcases List.mem_append.1 hs with hs | hs
    · have := h1 s hs; omega
    · rw [List.mem_singleton.1 hs]; omega
  · rcases Nat.le_total (lo.getD k 0) (t.2.getD k 0) with hc | hc
    · exact ⟨t, by simp, by omega⟩
    · exact ⟨u, by simp [hu], by omega⟩

theorem splice_expV {x : List Nat} {k v : Nat} (hk : k < x.length) : splice (expV x) k [.int .i64 (v : Nat)] = expV (x.set k v) := by
  unfold splice expV
  rw [List.set_eq_take_append_cons_drop, if_pos hk]
  simp

set_option maxHeartbeats 3200000 in
theorem ranges_any (h : Heap) (v : Value) (f : Pol) (hf : PolyAt h v f) (hne : f ≠ []) (hlen : f.length < 10000000) :
    Spec E.P f_checkpoly_ranges #[v] h (fun v' h' => Ext h h' ∧ ∃ lo hi, v' = .tuple #[.agg (expV lo).toArray, .agg (expV hi).toArray] ∧ IsLo f lo ∧ IsHi f hi) := by
  obtain ⟨a, cap, rfl, hcap, hf⟩ := hf
  obtain ⟨b, off, rfl, hc⟩ := hf hne
  have hpos : 0 < f.length := List.length_pos_iff.2 hne
  refine Spec.intro hE (args := [_]) F_checkpoly_ranges rfl rfl (Nat.le_of_ble_eq_true rfl) ?_
  refine DNew.intro ?_
  intro lb h1 hlb hx1 hs1 hg1
  refine DNew.intro ?_
  intro hb h2 hhb hx2 hs2 hg2
  have hx02 := hx1.trans hx2
  obtain ⟨cs0, ht0, hcs0⟩ := hc 0 hpos
  have hl0 := ht0.1
  have wl2 : Whole h2 lb t_ar4_int _ := hx2.at hg1
  have wh2 : Whole h2 hb t_ar4_int _ := hg2
  have hex0 := ht0.exps hcs0
  refine DDraw.cut (ι := Unit) (fun _ => [(2, .pointer (some ⟨lb, 0, none⟩)), (3, .pointer (some ⟨hb, 0, none⟩)), (0, .slice (some ⟨b, off, none⟩) f.length cap)])
    (fun _ h' => Old h.size h h' ∧ h'.size = h2.size ∧ Whole h' lb t_ar4_int (expV f[0].2) ∧ Whole h' hb t_ar4_int (expV f[0].2)) ?_ ?_
  · refine DDraw.intro hE (.take 0 (.take 1 (.take 2 (.take 4 (.take 5 (.take 6 (.take 3 (.take 7 (.one 8 (.one 9 .done)))))))))) none (fun h' => Old h.size h h') (by kernel_rfl) ((Old.rfl).ext hx02 (Nat.le_refl _)) ?_
    refine DIdx.intro 0 rfl rfl hpos ?_
    refine DIdx.intro 0 rfl rfl hpos ?_
    refine QLoad.agg (expV f[0].2) (by rw [expV_len]; exact hl0) (fun _ o => hex0.ext o.toExt) ?_
    refine QLoad.agg (expV f[0].2) (by rw [expV_len]; exact hl0) (fun _ o => hex0.ext o.toExt) ?_
    have o2 : Old h.size h h2 := (Old.rfl).ext hx02 (Nat.le_refl _)
    have hone : (expV f[0].2).all Value.oneCell' = true := by simp [expV, Value.oneCell']
    refine DStore.full wl2 rfl (by rw [expV_len]; exact hl0) rfl hone ?_
    intro h3 hu3
    have o3 := o2.upd hu3 (by omega)
    refine ⟨o3, ?_⟩
    refine DStore.full (hu3.at_ne wh2 (by omega)) rfl (by rw [expV_len]; exact hl0) rfl hone ?_
    intro h4 hu4
    have o4 := o3.upd hu4 (by omega)
    refine ⟨o4, ?_⟩
    exact ⟨(), ⟨rfl, rfl, rfl, trivial⟩, o4, by rw [hu4.size, hu3.size], hu4.at_ne hu3.at_ (by omega), hu4.at_⟩
  · rintro _ h3 ⟨ho3, hsz3, wl3, wh3⟩
    refine DSlice.intro 1 f.length rfl rfl (by omega) hcap.1 ?_
    have hP : PolyAt h (slV 6 (some ⟨b, off, none⟩) cap 1 f.length) ((f.take f.length).drop 1) := PolyAt.slice ⟨some ⟨b, off, none⟩, cap, rfl, hcap, hf⟩ (by omega) (Nat.le_refl _)
    rw [List.take_length] at hP
    obtain ⟨a', cap', heq, -, hA⟩ := hP
    have hgl : (f.drop 1).length = f.length - 1 := by simp
    rw [heq]
    generalize hg : f.drop 1 = g at *
    refine DLoop.intro hE (ι := Nat × List Nat × List Nat) (fun s => [(19, .int .i64 s.1), (17, .slice a' g.length cap'), (18, .int .i64 g.length), (2, .pointer (some ⟨lb, 0, none⟩)), (3, .pointer (some ⟨hb, 0, none⟩))])
      (fun s h' => Old h.size h h' ∧ h2.size ≤ h'.size ∧ s.1 ≤ g.length ∧ Whole h' lb t_ar4_int (expV s.2.1) ∧ Whole h' hb t_ar4_int (expV s.2.2) ∧ IsLo (f.take (s.1 + 1)) s.2.1 ∧ IsHi (f.take (s.1 + 1)) s.2.2) (fun s => g.length - s.1) (0, f[0].2, f[0].2) rfl ⟨rfl, rfl, rfl, rfl, rfl, trivial⟩ ⟨ho3, by omega, Nat.zero_le _, wl3, wh3, ?_, ?_⟩ ?_
    · dsimp only
      have e : f.take (0 + 1) = [f[0]] := by rw [Nat.zero_add, List.take_one, List.head?_eq_getElem?]; simp [hpos]
      rw [e]; exact IsLo.one hl0
    · dsimp only
      have e : f.take (0 + 1) = [f[0]] := by rw [Nat.zero_add, List.take_one, List.head?_eq_getElem?]; simp [hpos]
      rw [e]; exact IsHi.one hl0
    rintro ⟨i, lo, hi⟩ h4 ⟨ho4, hsz4, hi4, wl4, wh4, hlo, hhi⟩
    dsimp only at hi4 wl4 wh4 hlo hhi ⊢
    refine bsp.dec (fun hlt => ?_) (fun hlt => ?_)
    · have hig : i < g.length := by omega
      obtain ⟨gb, goff, rfl, hgc⟩ := hA (by intro e; subst e; simp at hig)
      obtain ⟨cs, ht, hcs⟩ := hgc i hig
      refine DIdx.intro i rfl rfl hig ?_
      refine DLoad.agg cs ht.len (hcs.ext ho4.toExt) ?_
      refine DNew.intro ?_
      intro tb h5 htb hx5 hs5 hg5
      refine DStore.full hg5 rfl ht.len rfl ht.ones ?_
      intro h6 hu6
      have o6 : Old h.size h h6 := (ho4.ext hx5 (Nat.le_refl _)).upd hu6 (by have := ho4.1; omega)
      have ht6 := ht.ext o6.toExt
      refine DLoad.agg (expV g[i].2) (by rw [expV_len]; exact ht.1) (ht6.exps (h' := h6) (Whole.cellsAt hu6.at_)) ?_
      have wl6 : Whole h6 lb t_ar4_int (expV lo) := hu6.at_ne (hx5.at wl4) (by omega)
      have wh6 : Whole h6 hb t_ar4_int (expV hi) := hu6.at_ne (hx5.at wh4) (by omega)
      have htl := ht.1
      refine DLoop.intro hE (ι := Nat) (fun k => [(25, .int .i64 k), (24, .agg (expV g[i].2).toArray), (19, .int .i64 i), (17, .slice (some ⟨gb, goff, none⟩) g.length cap'), (18, .int .i64 g.length), (2, .pointer (some ⟨lb, 0, none⟩)), (3, .pointer (some ⟨hb, 0, none⟩))])
        (fun k h' => Old h.size h h' ∧ h2.size ≤ h'.size ∧ k ≤ 4 ∧ Whole h' lb t_ar4_int (expV (midO min lo g[i].2 k)) ∧ Whole h' hb t_ar4_int (expV (midO max hi g[i].2 k))) (fun k => 4 - k) 0 rfl ⟨rfl, rfl, rfl, rfl, rfl, rfl, rfl, trivial⟩ ⟨o6, by have := hx5.size; rw [hu6.size]; omega, Nat.zero_le _, wl6, wh6⟩ ?_
      rintro k h7 ⟨o7, hsz7, hk, wl7, wh7⟩
      refine bsp.dec (fun hlt2 => ?_) (fun hlt2 => ?_)
      · have hk4 : k < 4 := by omega
        have hml := midO_len (g := min) hlo.1 htl (k := k) (by omega)
        have hmh := midO_len (g := max) hhi.1 htl (k := k) (by omega)
        have hkl : k < lo.length := by have := hlo.1; omega
        have hkh : k < hi.length := by have := hhi.1; omega
        have hkt : k < g[i].2.length := by omega
        have hcl : cell h7 lb (0 + k) = some (.int .i64 (lo[k] : Nat)) := by
          refine wl7.get _ ?_
          rw [Nat.zero_add, expV_get (by omega), midO_get hlo.1 htl hk4]
        have hch : cell h7 hb (0 + k) = some (.int .i64 (hi[k] : Nat)) := by
          refine wh7.get _ ?_
          rw [Nat.zero_add, expV_get (by omega), midO_get hhi.1 htl hk4]
        refine index_run g[i].2 k htl hk4 ?_
        refine DDraw.cut (ι := Unit) (fun _ => [(25, .int .i64 k), (24, .agg (expV g[i].2).toArray), (19, .int .i64 i), (17, .slice (some ⟨gb, goff, none⟩) g.length cap'), (18, .int .i64 g.length), (2, .pointer (some ⟨lb, 0, none⟩)), (3, .pointer (some ⟨hb, 0, none⟩))])
          (fun _ h' => Old h.size h h' ∧ h2.size ≤ h'.size ∧ Whole h' lb t_ar4_int (expV (midO min lo g[i].2 (k + 1))) ∧ Whole h' hb t_ar4_int (expV (midO max hi g[i].2 (k + 1)))) ?_ ?_
        · refine DDraw.intro hE (.take 0 (.take 1 (.take 2 (.take 3 (.take 5 (.take 7 (.take 8 (.take 10 (.take 4 (.take 6 (.take 12 (.two 9 13 (.take 11 (.one 13 (.take 14 (.one 15 .done)))) (.one 9 (.take 11 (.take 14 (.one 15 .done)))))))))))))))) (some 13) (fun h' => h' = h7) (by kernel_rfl) rfl ?_
          refine DIdx.intro k rfl rfl hk4 ?_
          refine DIdx.intro k rfl rfl hk4 ?_
          refine QLoad.scalar (fun _ e => by rw [e]; exact hcl) ?_
          refine DIdx.intro k rfl rfl hk4 ?_
          have hend1 : ∀ K : Heap → Prop, (∀ h8, Old h.size h h8 → h8.size = h7.size → Whole h8 lb t_ar4_int (expV (midO min lo g[i].2 (k + 1))) → Whole h8 hb t_ar4_int (expV (midO max hi g[i].2 k)) → cell h8 hb (0 + k) = some (.int .i64 (hi[k] : Nat)) → K h8) →
              DStore 1 lb (0 + k) (.int .i64 (if (g[i].2[k] : Int) < (lo[k] : Int) then (g[i].2[k] : Int) else (lo[k] : Int))) h7 K := by
            intro K hK
            refine DStore.part (vs := [.int .i64 (if (g[i].2[k] : Int) < (lo[k] : Int) then (g[i].2[k] : Int) else (lo[k] : Int))]) (expV (midO min lo g[i].2 (k + 1))) wl7 rfl rfl (by simp [expV_len, hml]; omega) rfl ?_ ?_
            · have e : (if (g[i].2[k] : Int) < (lo[k] : Int) then (g[i].2[k] : Int) else (lo[k] : Int)) = ((min lo[k] g[i].2[k] : Nat) : Int) := by split <;> omega
              rw [e, Nat.zero_add, splice_expV (by omega), midO_set hlo.1 htl hk4]
            · intro h8 hu8 hw8
              exact hK h8 (o7.upd hu8 (by omega)) hu8.size hw8 (hu8.at_ne wh7 (by omega)) (hu8.cell_ne hch (by omega))
          have hend2 : ∀ (h8 : Heap) (K : Heap → Prop), Old h.size h h8 → h8.size = h7.size → Whole h8 lb t_ar4_int (expV (midO min lo g[i].2 (k + 1))) → Whole h8 hb t_ar4_int (expV (midO max hi g[i].2 k)) →
              (∀ h9, Old h.size h h9 ∧ h2.size ≤ h9.size ∧ Whole h9 lb t_ar4_int (expV (midO min lo g[i].2 (k + 1))) ∧ Whole h9 hb t_ar4_int (expV (midO max hi g[i].2 (k + 1))) → K h9) →
              DStore 1 hb (0 + k) (.int .i64 (if (hi[k] : Int) < (g[i].2[k] : Int) then (g[i].2[k] : Int) else (hi[k] : Int))) h8 K := by
            intro h8 K o8 hsz8 wl8 wh8 hK
            refine DStore.part (vs := [.int .i64 (if (hi[k] : Int) < (g[i].2[k] : Int) then (g[i].2[k] : Int) else (hi[k] : Int))]) (expV (midO max hi g[i].2 (k + 1))) wh8 rfl rfl (by simp [expV_len, hmh]; omega) rfl ?_ ?_
            · have e : (if (hi[k] : Int) < (g[i].2[k] : Int) then (g[i].2[k] : Int) else (hi[k] : Int)) = ((max hi[k] g[i].2[k] : Nat) : Int) := by split <;> omega
              rw [e, Nat.zero_add, splice_expV (by omega), midO_set hhi.1 htl hk4]
            · intro h9 hu9 hw9
              exact hK h9 ⟨o8.upd hu9 (by omega), by rw [hu9.size, hsz8]; exact hsz7, hu9.at_ne wl8 (by omega), hw9⟩
          refine ⟨?_, ?_⟩
          · refine DLoad.scalar hch ?_
            refine ⟨rfl, ?_⟩
            refine hend1 _ ?_
            intro h8 o8 z8 wl8 wh8 _
            refine DIdx.intro k rfl rfl hk4 ?_
            refine hend2 h8 _ o8 z8 wl8 wh8 ?_
            intro h9 hh
            exact ⟨(), ⟨rfl, rfl, rfl, rfl, rfl, rfl, rfl, trivial⟩, hh⟩
          · refine hend1 _ ?_
            intro h8 o8 z8 wl8 wh8 hc8
            refine DLoad.scalar hc8 ?_
            refine DIdx.intro k rfl rfl hk4 ?_
            refine hend2 h8 _ o8 z8 wl8 wh8 ?_
            intro h9 hh
            exact ⟨(), ⟨rfl, rfl, rfl, rfl, rfl, rfl, rfl, trivial⟩, hh⟩
        · rintro _ h8 ⟨o8, hsz8, wl8, wh8⟩
          refine DWrap.is ((k + 1 : Nat) : Int) (by omega) (by omega) ?_
          exact ⟨k + 1, ⟨rfl, rfl, rfl, rfl, rfl, rfl, rfl, trivial⟩, ⟨o8, hsz8, by omega, wl8, wh8⟩, by omega⟩
      · obtain rfl : k = 4 := by omega
        rw [midO_end hlo.1 htl] at wl7
        rw [midO_end hhi.1 htl] at wh7
        refine DWrap.is ((i + 1 : Nat) : Int) (by omega) (by omega) ?_
        have htk : f.take (i + 1 + 1) = f.take (i + 1) ++ [g[i]] := by
          have hif : i + 1 < f.length := by omega
          rw [List.take_succ_eq_append_getElem hif]
          congr 2
          simp only [← hg, List.getElem_drop]; congr 1; omega
        refine ⟨(i + 1, _, _), ⟨rfl, rfl, rfl, rfl, rfl, trivial⟩, ⟨o7, hsz7, by dsimp only; omega, wl7, wh7, ?_, ?_⟩, by dsimp only; omega⟩
        · dsimp only; rw [htk]; exact hlo.snoc htl
        · dsimp only; rw [htk]; exact hhi.snoc htl
    · have e : f.take (i + 1) = f := List.take_of_length_le (by omega)
      rw [e] at hlo hhi
      refine DDraw.intro hE (.take 0 (.take 1 (.one 2 (.one 3 .done)))) none (fun h' => Old h.size h h' ∧ Whole h' lb t_ar4_int (expV lo) ∧ Whole h' hb t_ar4_int (expV hi)) (by kernel_rfl) ⟨ho4, wl4, wh4⟩ ?_
      refine QLoad.agg (expV lo) (by rw [expV_len]; exact hlo.1) (fun _ e => e.2.1.cellsAt) ?_
      refine QLoad.agg (expV hi) (by rw [expV_len]; exact hhi.1) (fun _ e => e.2.2.cellsAt) ?_
      have ho1 : ∀ l : List Nat, (expV l).all Value.oneCell' = true := fun l => by simp [expV, Value.oneCell']
      refine DStore.full wl4 rfl (by rw [expV_len]; exact hlo.1) (by rw [expV_len]; exact hlo.1) (ho1 lo) ?_
      intro h5 hu5
      have o5 := ho4.upd hu5 (by omega)
      have wh5 := hu5.at_ne wh4 (by omega)
      refine ⟨⟨o5, hu5.at_, wh5⟩, ?_⟩
      refine DStore.full wh5 rfl (by rw [expV_len]; exact hhi.1) (by rw [expV_len]; exact hhi.1) (ho1 hi) ?_
      intro h6 hu6
      have o6 := o5.upd hu6 (by omega)
      have wl6 : Whole h6 lb t_ar4_int (expV lo) := hu6.at_ne hu5.at_ (by omega)
      have wh6 : Whole h6 hb t_ar4_int (expV hi) := hu6.at_
      refine ⟨⟨o6, wl6, wh6⟩, ?_⟩
      refine DLoad.whole _ wl6 (by rw [expV_len]; exact hlo.1) ?_
      refine DLoad.whole _ wh6 (by rw [expV_len]; exact hhi.1) ?_
      exact ⟨o6.toExt, lo, hi, rfl, hlo, hhi⟩
end Go.Vc
