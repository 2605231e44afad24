/- modpoly and the document: sums, products, values, comparisons. -/
import Derived.Test.YtnjkjmhhjooijaaDoorMb
namespace Go.Vc
open Go.Proofs

theorem ref07Modulus_any (h : Heap) (m : Nat) (hm : m < 4294967296) : Spec E.P f_cylinderref07_Modulus #[vnum .u32 m] h (fun v h' => h' = h ∧ v = vnum .u64 (mx m)) := by
  refine Spec.intro hE (args := [vnum .u32 m]) F_cylinderref07_Modulus rfl rfl (Nat.le_of_ble_eq_true rfl) ?_
  refine bsp.intro (fun hz => ?_) (fun hz => ?_)
  · have : m = 0 := by simpa using hz
    subst this
    exact ⟨rfl, rfl⟩
  · have : m ≠ 0 := by simpa using hz
    refine DWrap.eq (m := mx m) (by rw [IntKind.wrap_u64]; unfold mx; omega) ?_
    exact ⟨rfl, rfl⟩
theorem lawModulus_any (h : Heap) (m : Nat) (hm : m < 4294967296) : Spec E.P f_cylinderlaw10_modulus #[vnum .u32 m] h (fun v h' => h' = h ∧ v = vnum .u64 (mx m)) := by
  refine Spec.intro hE (args := [vnum .u32 m]) F_cylinderlaw10_modulus rfl rfl (Nat.le_of_ble_eq_true rfl) ?_
  exact (ref07Modulus_any h m hm).mono fun _ _ hh => hh

theorem refMod_any (h : Heap) (v : Value) (f : List Nat) (k : Nat) (hf : Nums .u32 h v f) (hd : Dg f) (hk : 0 < k) (hk2 : k < 4294967296) (hlen : f.length < 100000000) :
    Spec E.P f_cylinderref10_Mod #[v, vnum .u64 k] h (fun v' h' => Ext h h' ∧ Nums .u64 h' v' (cnf k f.length (co f))) := by
  have hf0 := hf
  obtain ⟨a, cap, rfl, hcap, -⟩ := hf
  refine Spec.intro hE (args := [_, _]) F_cylinderref10_Mod rfl rfl (Nat.le_of_ble_eq_true rfl) ?_
  refine DMake.intro f.length f.length rfl rfl (Nat.le_refl _) (by omega) (by omega) ?_
  intro zb h1 hzb hx1 hs1 hg1
  refine DLoop.intro hE (ι := Nat × List Nat) (fun s => [(6, .int .i64 s.1), (0, .slice a f.length cap), (5, .slice (some ⟨zb, 0, none⟩) f.length f.length), (1, vnum .u64 k)])
    (fun s h' => Ext h h' ∧ s.1 ≤ f.length ∧ NumB h' zb .u64 t_uint64 s.2 ∧ Laid k f.length (co f) s.1 s.2) (fun s => f.length - s.1) (0, List.replicate f.length 0) rfl ⟨rfl, rfl, rfl, rfl, trivial⟩ ⟨hx1, Nat.zero_le _, NumB.zeros hg1, Laid.start⟩ ?_
  rintro ⟨i, Z⟩ h3 ⟨hx3, hi, hZ, hL⟩
  dsimp only at hi hZ hL ⊢
  refine bsp.dec (fun hlt => ?_) (fun hlt => ?_)
  · have hif : i < f.length := by omega
    obtain ⟨b, off, rfl, hcell⟩ := hf0.at hif
    refine DIdx.intro i rfl rfl hif ?_
    refine DLoad.scalar (hx3.cell hcell) ?_
    have := hd.co i
    refine DWrap.eq (m := co f i) (by rw [IntKind.wrap_u64]; omega) ?_
    refine ⟨by omega, ?_⟩
    rw [tmod_nat]
    refine DIdx.intro i rfl rfl hif ?_
    refine DStore.num i (Nat.zero_add _) hZ (by rw [hL.len]; exact hif) ?_
    intro h4 hu4 hZ4
    refine DWrap.is ((i + 1 : Nat) : Int) (by omega) (by omega) ?_
    refine ⟨(i + 1, _), ⟨rfl, rfl, rfl, rfl, trivial⟩, ⟨((hx3.old (Nat.le_refl _)).upd hu4 (by omega)).toExt, by dsimp only; omega, hZ4, hL.next hif rfl⟩, by dsimp only; omega⟩
  · obtain rfl : i = f.length := by omega
    have hn := hZ.nums
    rw [hL.len] at hn
    refine (refTrim_any h3 _ Z hn (by rw [hL.len]; omega)).mono ?_
    rintro v4 h4 ⟨rfl, hv4⟩
    rw [hL.done] at hv4
    exact ⟨hx3, hv4⟩

theorem coefs_any (h : Heap) (v : Value) (f : List Nat) (m : Nat) (hf : Nums .u32 h v f) (hd : Dg f) (hm : m < 4294967296) (hlen : f.length < 100000000) :
    Spec E.P f_cylinderlaw10_coefs #[v, vnum .u32 m] h (fun v' h' => Ext h h' ∧ Nums .u64 h' v' (cnf (mx m) f.length (co f))) := by
  refine Spec.intro hE (args := [_, _]) F_cylinderlaw10_coefs rfl rfl (Nat.le_of_ble_eq_true rfl) ?_
  refine (lawModulus_any h m hm).mono ?_
  rintro _ _ ⟨rfl, rfl⟩
  refine (refMod_any _ v f _ hf hd (mx_pos m) (mx_lt hm) hlen).mono ?_
  rintro v1 h1 hh
  exact hh

/-- is: the same numbers -/
theorem is_any (h : Heap) (v w : Value) (f g : List Nat) (hf : Nums .u32 h v f) (hg : Nums .u64 h w g) (hd : Dg f) (hlen : f.length < 100000000) (hlg : g.length < 100000000) :
    Spec E.P f_cylinderlaw10_is #[v, w] h (fun v' h' => h' = h ∧ v' = .bool (decide (f = g))) := by
  have hf0 := hf
  have hg0 := hg
  obtain ⟨a, cap, rfl, hcap, -⟩ := hf
  obtain ⟨b, cap2, rfl, hcap2, -⟩ := hg
  refine Spec.intro hE (args := [_, _]) F_cylinderlaw10_is rfl rfl (Nat.le_of_ble_eq_true rfl) ?_
  refine bsp.intro (fun hne => ?_) (fun heq => ?_)
  · refine ⟨rfl, ?_⟩
    show Value.bool false = _
    rw [decide_eq_false]
    intro e; subst e; simp at hne
  have hl : f.length = g.length := by simp at heq; omega
  refine DLoop.intro hE (ι := Nat) (fun i => [(13, .int .i64 i), (12, .int .i64 g.length), (0, .slice a f.length cap), (1, .slice b g.length cap2)]) (fun i h' => h' = h ∧ i ≤ g.length ∧ ∀ j, j < i → co f j = co g j) (fun i => g.length - i) 0 rfl ⟨rfl, rfl, rfl, rfl, trivial⟩ ⟨rfl, Nat.zero_le _, fun j hj => absurd hj (Nat.not_lt_zero _)⟩ ?_
  rintro i h' ⟨rfl, hi, hs⟩
  refine bsp.dec (fun hlt => ?_) (fun hlt => ?_)
  · have hig : i < g.length := by omega
    obtain ⟨fb, fo, rfl, hc1⟩ := hf0.at (i := i) (by omega)
    obtain ⟨gb, go, rfl, hc2⟩ := hg0.at hig
    refine DDraw.intro hE (.take 0 (.take 1 (.take 2 (.take 5 (.take 6 (.take 7 (.take 3 (.take 4 (.take 8 (.take 9 .done)))))))))) none (· = h') (by kernel_rfl) rfl ?_
    refine DIdx.intro i rfl rfl (by omega) ?_
    refine DIdx.intro i rfl rfl (by omega) ?_
    refine QLoad.scalar (fun _ e => by rw [e]; exact hc1) ?_
    have := hd.co i
    refine DWrap.eq (m := co f i) (by rw [IntKind.wrap_u64]; omega) ?_
    refine QLoad.scalar (fun _ e => by rw [e]; exact hc2) ?_
    refine bsp.intro (fun hne => ?_) (fun heq => ?_)
    · refine ⟨rfl, ?_⟩
      show Value.bool false = _
      rw [decide_eq_false]
      intro e; subst e; simp at hne
    · have he : co f i = co g i := by simp at heq; omega
      refine DWrap.is ((i + 1 : Nat) : Int) (by omega) (by omega) ?_
      refine ⟨i + 1, ⟨rfl, rfl, rfl, rfl, trivial⟩, ⟨rfl, by omega, fun j hj => ?_⟩, by omega⟩
      by_cases e : j = i
      · rw [e]; exact he
      · exact hs j (by omega)
  · obtain rfl : i = g.length := by omega
    refine ⟨rfl, ?_⟩
    show Value.bool true = _
    rw [decide_eq_true]
    refine co_ext hl fun j => ?_
    by_cases hj : j < g.length
    · exact hs j hj
    · rw [co_ge (by omega), co_ge (by omega)]

theorem canonical_any (h : Heap) (v : Value) (f : List Nat) (m : Nat) (hf : Nums .u32 h v f) (hd : Dg f) (hm : m < 4294967296) (hlen : f.length < 100000000) :
    Spec E.P f_cylinderlaw10_canonical #[v, vnum .u32 m] h (fun v' h' => Ext h h' ∧ v' = .bool (decide (f = cnf (mx m) f.length (co f)))) := by
  refine Spec.intro hE (args := [_, _]) F_cylinderlaw10_canonical rfl rfl (Nat.le_of_ble_eq_true rfl) ?_
  refine (coefs_any h v f m hf hd hm hlen).mono ?_
  rintro v1 h1 ⟨hx1, hv1⟩
  have := cnf_len (mx m) f.length (co f)
  refine (is_any h1 v v1 f _ (hf.ext hx1) hv1 hd hlen (by omega)).mono ?_
  rintro _ h2 ⟨rfl, rfl⟩
  exact ⟨hx1, rfl⟩

theorem few_any (h : Heap) (b : Nat) (e : TypeId) (vs : List Value) (ls : List Nat) (hw : Whole h b e vs) (hl : vs.length = ls.length) (hv : ∀ i (h1 : i < vs.length) (h2 : i < ls.length), ∃ a cap, vs[i] = .slice a ls[i] cap) (hlen : ls.length < 1000) :
    Spec E.P f_cylinderlaw10_few #[.slice (some ⟨b, 0, none⟩) ls.length ls.length] h (fun v' h' => h' = h ∧ ∃ r, v' = .bool r ∧ (r = true → ∀ l ∈ ls, l ≤ 12)) := by
  refine Spec.intro hE (args := [_]) F_cylinderlaw10_few rfl rfl (Nat.le_of_ble_eq_true rfl) ?_
  refine DLoop.intro hE (ι := Nat) (fun i => [(7, .int .i64 i), (6, .int .i64 ls.length), (5, .slice (some ⟨b, 0, none⟩) ls.length ls.length)]) (fun i h' => h' = h ∧ i ≤ ls.length ∧ ∀ l ∈ ls.take i, l ≤ 12) (fun i => ls.length - i) 0 rfl ⟨rfl, rfl, rfl, trivial⟩ ⟨rfl, Nat.zero_le _, fun l hl => by simp at hl⟩ ?_
  rintro i h' ⟨rfl, hi, hs⟩
  refine bsp.dec (fun hlt => ?_) (fun hlt => ?_)
  · have hil : i < ls.length := by omega
    have hiv : i < vs.length := by omega
    obtain ⟨a, cap, he⟩ := hv i hiv hil
    refine DIdx.intro i rfl rfl hil ?_
    refine DLoad.scalar (v := .slice a ls[i] cap) (by rw [Nat.zero_add]; exact hw.get i (by rw [List.getElem?_eq_getElem hiv, he])) ?_
    refine bsp.dec (p := (ls[i] : Int) > 12) (fun hbad => ?_) (fun hok => ?_)
    · exact ⟨rfl, false, rfl, fun e => by cases e⟩
    · refine DWrap.is ((i + 1 : Nat) : Int) (by omega) (by omega) ?_
      refine ⟨i + 1, ⟨rfl, rfl, rfl, trivial⟩, ⟨rfl, by omega, fun l hl => ?_⟩, by omega⟩
      rw [List.take_succ_eq_append_getElem hil] at hl
      rcases List.mem_append.1 hl with hl | hl
      · exact hs l hl
      · rw [List.mem_singleton] at hl; subst hl; omega
  · obtain rfl : i = ls.length := by omega
    rw [List.take_length] at hs
    exact ⟨rfl, true, rfl, fun _ => hs⟩

theorem cnf_tlen {M : Nat} (f : List Nat) : (cnf M f.length (co f)).length = tlen ((List.range f.length).map fun i => co f i % M) f.length := by
  unfold cnf; rw [trimL_len]; simp

theorem modDegree_any (h : Heap) (v : Value) (f : List Nat) (m : Nat) (hf : Nums .u32 h v f) (hd : Dg f) (hm : m < 4294967296) (hlen : f.length < 100000000) :
    Spec E.P f_modpoly_Degree #[v, vnum .u32 m] h (fun v' h' => h' = h ∧ v' = .int .i64 (((cnf (mx m) f.length (co f)).length : Int) - 1)) := by
  have hf0 := hf
  obtain ⟨a, cap, rfl, hcap, -⟩ := hf
  refine Spec.intro hE (args := [_, _]) F_modpoly_Degree rfl rfl (Nat.le_of_ble_eq_true rfl) ?_
  have h2 := mx_pos m
  rw [cnf_tlen]
  have hZ : ∀ i, i < f.length → co ((List.range f.length).map fun i => co f i % mx m) i = co f i % mx m := fun i hi => by rw [co_lt (by simpa using hi)]; simp
  generalize (List.range f.length).map (fun i => co f i % mx m) = Z at *
  refine DLoop.intro hE (ι := Nat) (fun k => [(0, .slice a f.length cap), (6, .int .i64 k), (5, vnum .u32 (mx m))]) (fun k h' => h' = h ∧ k ≤ f.length ∧ tlen Z f.length = tlen Z k) (fun k => k) f.length rfl ⟨rfl, rfl, by rw [max_u32]; rfl, trivial⟩ ⟨rfl, Nat.le_refl _, rfl⟩ ?_
  rintro k h' ⟨rfl, hk, ht⟩
  conv => whnf
  refine bsp.dec (fun hc => ?_) (fun hc => ?_)
  · obtain ⟨n, rfl⟩ : ∃ n, k = n + 1 := ⟨k - 1, by omega⟩
    obtain ⟨b, off, rfl, hcell⟩ := hf0.at (i := n) (by omega)
    have hzn := hZ n (by omega)
    refine DWrap.is n (by omega) (by omega) ?_
    refine DIdx.intro n rfl rfl (by omega) ?_
    refine DLoad.scalar hcell ?_
    refine ⟨by omega, ?_⟩
    conv => whnf
    refine bsp.intro (b := Int.tmod (co f n : Int) (mx m : Int) == 0) (fun hz => ?_) (fun hz => ?_)
    · rw [tmod_nat] at hz
      have h0 : co Z n = 0 := by rw [hzn]; simp at hz; omega
      refine DWrap.is n (by omega) (by omega) ?_
      refine ⟨n, ⟨rfl, rfl, rfl, trivial⟩, ⟨rfl, by omega, ?_⟩, by omega⟩
      rw [ht]
      show (if co Z n = 0 then tlen Z n else n + 1) = _
      rw [if_pos h0]
    · rw [tmod_nat] at hz
      have h0 : co Z n ≠ 0 := by rw [hzn]; simp at hz; omega
      refine DWrap.is (n : Int) (by omega) (by omega) ?_
      refine ⟨rfl, ?_⟩
      have : tlen Z (n + 1) = n + 1 := by
        show (if co Z n = 0 then tlen Z n else n + 1) = _
        rw [if_neg h0]
      rw [ht, this]
      show Value.int .i64 (n : Int) = _
      congr 1; omega
  · obtain rfl : k = 0 := by omega
    refine DWrap.is (-1) (by omega) (by omega) ?_
    refine ⟨rfl, ?_⟩
    rw [ht]; rfl
end Go.Vc
