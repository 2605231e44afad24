/- modpoly: sums, multiples, derivatives, values. -/
import Derived.Test.YtnjkjmhhjooijaaDoorMc
namespace Go.Vc
open Go.Proofs

/-- coefficients below 2^32 and where they differ from what was there -/
structure Mix (n : Nat) (c d : Nat → Nat) (i : Nat) (Z : List Nat) : Prop where
  len : Z.length = n
  co : ∀ j, co Z j = if j < i then c j else d j
  dg : Dg Z
theorem Mix.next {n i v : Nat} {c d : Nat → Nat} {Z : List Nat} (l : Mix n c d i Z) (hi : i < n) (hv : v = c i) (hlt : v < 4294967296) : Mix n c d (i + 1) (Z.set i v) := by
  refine ⟨by rw [List.length_set]; exact l.len, fun j => ?_, l.dg.set hlt⟩
  rw [co_set (by rw [l.len]; exact hi), l.co]
  by_cases h : j = i
  · subst h; rw [if_pos rfl, if_pos (by omega), hv]
  · rw [if_neg h]
    by_cases h2 : j < i
    · rw [if_pos h2, if_pos (by omega)]
    · rw [if_neg h2, if_neg (by omega)]

theorem co_copy {f : List Nat} {n : Nat} (h : f.length ≤ n) (j : Nat) : co (f ++ List.replicate (n - f.length) 0) j = co f j := by
  by_cases hj : j < f.length
  · rw [co_lt (by simp; omega), co_lt hj, List.getElem_append_left hj]
  · rw [co_ge (f := f) (by omega)]
    by_cases h2 : j < n
    · rw [co_lt (by simp; omega), List.getElem_append_right (by omega)]; simp
    · exact co_ge (by simp; omega)

/-- copy of f into zeros -/
theorem DRun.copyNums {h : Heap} {zb n cap : Nat} {a : Option Addr} {f : List Nat} (hZ : NumB h zb .u32 t_uint32 (List.replicate n 0)) (hf : Nums .u32 h (.slice a f.length cap) f) (hn : f.length ≤ n) {K : Value → Heap → Prop}
    (hk : ∀ h', (∃ o, Upd h zb o h') → NumB h' zb .u32 t_uint32 (f ++ List.replicate (n - f.length) 0) → K (.int .i64 f.length) h') :
    DRun E (Builtin.copy_ #[t_modpoly_Poly, t_modpoly_Poly] t_int #[.slice (some ⟨zb, 0, none⟩) n n, .slice a f.length cap]) h K := by
  refine DRun.copy hE (ti := ⟨.slice t_uint32, 1, 24, .slice none 0 0⟩) (ei := ⟨.int .u32, 1, 4, .int .u32 0⟩) rfl rfl rfl rfl hZ (f.map (vnum .u32)) (by simp; omega) (by simp; omega) (fun hne => ?_) (fun u hu => ?_) ?_
  · obtain ⟨a', cap', hv, -, hA⟩ := hf
    injection hv with e1 e2 e3
    obtain ⟨b, off, ha, hc⟩ := hA (by intro e; subst e; simp at hne)
    refine ⟨b, off, by rw [e1, ha], CellsAt.mk fun j v hj => ?_⟩
    have hjl : j < f.length := by have := (List.getElem?_eq_some_iff.1 hj).1; simpa using this
    rw [hc j hjl]
    simp [hjl] at hj
    rw [← hj]
  · obtain ⟨d, -, rfl⟩ := List.mem_map.1 hu; rfl
  · intro h' hu
    have e : splice ((List.replicate n 0).map (vnum .u32)) 0 (f.map (vnum .u32)) = (f ++ List.replicate (n - f.length) 0).map (vnum .u32) := by
      unfold splice
      simp
    rw [e] at hu
    have hk' := hk h' ⟨_, hu⟩ hu.at_
    simpa using hk'

theorem modAdd2_any (h : Heap) (v w : Value) (f g : List Nat) (m : Nat) (hf : Nums .u32 h v f) (hg : Nums .u32 h w g) (hdf : Dg f) (hdg : Dg g) (hm : m < 4294967296) (hlf : f.length < 10000000) (hlg : g.length < 10000000) :
    Spec E.P f_modpoly_Add #[v, w, vnum .u32 m] h (fun v' h' => Ext h h' ∧ Nums .u32 h' v' (cnf (mx m) (max f.length g.length) (fun i => co f i + co g i))) := by
  have hf0 := hf
  have hg0 := hg
  obtain ⟨a, cap, rfl, hcap, -⟩ := hf
  obtain ⟨b, cap2, rfl, hcap2, -⟩ := hg
  refine Spec.intro hE (args := [_, _, _]) F_modpoly_Add rfl rfl (Nat.le_of_ble_eq_true rfl) ?_
  have k1 := mx_lt hm
  have k2 := mx_pos m
  have e1 : (if ((g.length : Int)) > (f.length : Int) then (g.length : Int) else (f.length : Int)) = ((max f.length g.length : Nat) : Int) := by split <;> omega
  refine DMake.intro (max f.length g.length) (max f.length g.length) e1 e1 (Nat.le_refl _) (by omega) (by omega) ?_
  generalize hN : max f.length g.length = N at *
  intro zb h1 hzb hx1 hs1 hg1
  refine DRun.copyNums (NumB.zeros hg1) (hf0.ext hx1) (by omega) ?_
  rintro h2 ⟨o2, hu2⟩ hZ2
  have hx2 : Ext h h2 := ((hx1.old (Nat.le_refl _)).upd hu2 (by omega)).toExt
  refine DLoop.intro hE (ι := Nat × List Nat) (fun s => [(20, .int .i64 s.1), (19, .int .i64 g.length), (7, .slice (some ⟨zb, 0, none⟩) N N), (1, .slice b g.length cap2), (2, vnum .u32 m)])
    (fun s h' => Ext h h' ∧ s.1 ≤ g.length ∧ NumB h' zb .u32 t_uint32 s.2 ∧ Mix N (fun j => (co f j + co g j) % mx m) (co f) s.1 s.2) (fun s => g.length - s.1) (0, f ++ List.replicate (N - f.length) 0) rfl ⟨rfl, rfl, rfl, rfl, rfl, trivial⟩
    ⟨hx2, Nat.zero_le _, hZ2, ⟨by simp; omega, fun j => by rw [co_copy (by omega), if_neg (Nat.not_lt_zero _)], hdf.append (Dg.zeros _)⟩⟩ ?_
  rintro ⟨i, Z⟩ h3 ⟨hx3, hi, hZ, hL⟩
  dsimp only at hi hZ hL ⊢
  refine bsp.dec (fun hlt => ?_) (fun hlt => ?_)
  · have hig : i < g.length := by omega
    obtain ⟨gb, go, rfl, hc⟩ := hg0.at hig
    have hlen := hL.len
    have hZi : i < Z.length := by omega
    have hcz : co Z i = co f i := by rw [hL.co, if_neg (by omega)]
    refine DDraw.intro hE (.take 0 (.take 1 (.take 2 (.take 3 (.take 4 (.take 6 (.take 7 (.take 8 (.take 10 (.take 5 (.take 9 (.one 11 (.take 12 (.one 13 .done)))))))))))))) (some 13) (· = h3) (by kernel_rfl) rfl ?_
    refine DIdx.intro i rfl rfl (by omega) ?_
    refine DIdx.intro i rfl rfl hig ?_
    refine QLoad.scalar (fun _ e => by rw [e]; exact hZ.cell hZi) ?_
    refine QLoad.scalar (fun _ e => by rw [e]; exact hx3.cell hc) ?_
    refine (modAdd_any h3 Z[i] (co g i) m (hL.dg.get hZi) (hdg.co i) hm).mono ?_
    rintro _ _ ⟨rfl, rfl⟩
    refine ⟨rfl, ?_⟩
    refine DIdx.intro i rfl rfl (by omega) ?_
    refine DStore.num i (Nat.zero_add _) hZ hZi ?_
    intro h4 hu4 hZ4
    refine DWrap.is ((i + 1 : Nat) : Int) (by omega) (by omega) ?_
    refine ⟨(i + 1, _), ⟨rfl, rfl, rfl, rfl, rfl, trivial⟩, ⟨((hx3.old (Nat.le_refl _)).upd hu4 (by omega)).toExt, by dsimp only; omega, hZ4, hL.next (by omega) (by rw [← co_lt hZi, hcz]) (Nat.lt_trans (Nat.mod_lt _ k2) k1)⟩, by dsimp only; omega⟩
  · obtain rfl : i = g.length := by omega
    have hn := hZ.nums
    rw [hL.len] at hn
    have hlZ := hL.len
    refine (modNormal_any h3 _ Z m hn hL.dg hm (by omega)).mono ?_
    rintro v4 h4 ⟨hx4, hv4⟩
    refine ⟨hx3.trans hx4, ?_⟩
    rw [cnf_congr (n' := N) (c' := fun i => co f i + co g i)] at hv4
    · exact hv4
    intro j
    rw [hlZ]
    by_cases hj : j < N
    · rw [if_pos hj, if_pos hj, hL.co]
      by_cases h2 : j < g.length
      · rw [if_pos h2, Nat.mod_mod]
      · rw [if_neg h2, co_ge (f := g) (by omega), Nat.add_zero]
    · rw [if_neg hj, if_neg hj]

theorem modSub2_any (h : Heap) (v w : Value) (f g : List Nat) (m : Nat) (hf : Nums .u32 h v f) (hg : Nums .u32 h w g) (hdf : Dg f) (hdg : Dg g) (hm : m < 4294967296) (hlf : f.length < 10000000) (hlg : g.length < 10000000) :
    Spec E.P f_modpoly_Sub #[v, w, vnum .u32 m] h (fun v' h' => Ext h h' ∧ Nums .u32 h' v' (cnf (mx m) (max f.length g.length) (fun i => co f i + (mx m - co g i % mx m)))) := by
  have hf0 := hf
  have hg0 := hg
  obtain ⟨a, cap, rfl, hcap, -⟩ := hf
  obtain ⟨b, cap2, rfl, hcap2, -⟩ := hg
  refine Spec.intro hE (args := [_, _, _]) F_modpoly_Sub rfl rfl (Nat.le_of_ble_eq_true rfl) ?_
  have k1 := mx_lt hm
  have k2 := mx_pos m
  have e1 : (if ((g.length : Int)) > (f.length : Int) then (g.length : Int) else (f.length : Int)) = ((max f.length g.length : Nat) : Int) := by split <;> omega
  refine DMake.intro (max f.length g.length) (max f.length g.length) e1 e1 (Nat.le_refl _) (by omega) (by omega) ?_
  generalize hN : max f.length g.length = N at *
  intro zb h1 hzb hx1 hs1 hg1
  refine DRun.copyNums (NumB.zeros hg1) (hf0.ext hx1) (by omega) ?_
  rintro h2 ⟨o2, hu2⟩ hZ2
  have hx2 : Ext h h2 := ((hx1.old (Nat.le_refl _)).upd hu2 (by omega)).toExt
  refine DLoop.intro hE (ι := Nat × List Nat) (fun s => [(20, .int .i64 s.1), (19, .int .i64 g.length), (7, .slice (some ⟨zb, 0, none⟩) N N), (1, .slice b g.length cap2), (2, vnum .u32 m)])
    (fun s h' => Ext h h' ∧ s.1 ≤ g.length ∧ NumB h' zb .u32 t_uint32 s.2 ∧ Mix N (fun j => (co f j + (mx m - co g j % mx m)) % mx m) (co f) s.1 s.2) (fun s => g.length - s.1) (0, f ++ List.replicate (N - f.length) 0) rfl ⟨rfl, rfl, rfl, rfl, rfl, trivial⟩
    ⟨hx2, Nat.zero_le _, hZ2, ⟨by simp; omega, fun j => by rw [co_copy (by omega), if_neg (Nat.not_lt_zero _)], hdf.append (Dg.zeros _)⟩⟩ ?_
  rintro ⟨i, Z⟩ h3 ⟨hx3, hi, hZ, hL⟩
  dsimp only at hi hZ hL ⊢
  refine bsp.dec (fun hlt => ?_) (fun hlt => ?_)
  · have hig : i < g.length := by omega
    obtain ⟨gb, go, rfl, hc⟩ := hg0.at hig
    have hlen := hL.len
    have hZi : i < Z.length := by omega
    have hcz : co Z i = co f i := by rw [hL.co, if_neg (by omega)]
    refine DDraw.intro hE (.take 0 (.take 1 (.take 2 (.take 3 (.take 4 (.take 6 (.take 7 (.take 8 (.take 10 (.take 5 (.take 9 (.one 11 (.take 12 (.one 13 .done)))))))))))))) (some 13) (· = h3) (by kernel_rfl) rfl ?_
    refine DIdx.intro i rfl rfl (by omega) ?_
    refine DIdx.intro i rfl rfl hig ?_
    refine QLoad.scalar (fun _ e => by rw [e]; exact hZ.cell hZi) ?_
    refine QLoad.scalar (fun _ e => by rw [e]; exact hx3.cell hc) ?_
    refine (modSub_any h3 Z[i] (co g i) m (hL.dg.get hZi) (hdg.co i) hm).mono ?_
    rintro _ _ ⟨rfl, rfl⟩
    refine ⟨rfl, ?_⟩
    refine DIdx.intro i rfl rfl (by omega) ?_
    refine DStore.num i (Nat.zero_add _) hZ hZi ?_
    intro h4 hu4 hZ4
    refine DWrap.is ((i + 1 : Nat) : Int) (by omega) (by omega) ?_
    refine ⟨(i + 1, _), ⟨rfl, rfl, rfl, rfl, rfl, trivial⟩, ⟨((hx3.old (Nat.le_refl _)).upd hu4 (by omega)).toExt, by dsimp only; omega, hZ4, hL.next (by omega) (by rw [← co_lt hZi, hcz]) (Nat.lt_trans (Nat.mod_lt _ k2) k1)⟩, by dsimp only; omega⟩
  · obtain rfl : i = g.length := by omega
    have hn := hZ.nums
    rw [hL.len] at hn
    have hlZ := hL.len
    refine (modNormal_any h3 _ Z m hn hL.dg hm (by omega)).mono ?_
    rintro v4 h4 ⟨hx4, hv4⟩
    refine ⟨hx3.trans hx4, ?_⟩
    rw [cnf_congr (n' := N) (c' := fun i => co f i + (mx m - co g i % mx m))] at hv4
    · exact hv4
    intro j
    rw [hlZ]
    by_cases hj : j < N
    · rw [if_pos hj, if_pos hj, hL.co]
      by_cases h2 : j < g.length
      · rw [if_pos h2, Nat.mod_mod]
      · rw [if_neg h2, co_ge (f := g) (by omega), Nat.zero_mod, Nat.sub_zero, Nat.add_mod_right]
    · rw [if_neg hj, if_neg hj]

theorem modScale_T (h : Heap) (v : Value) (f : List Nat) (c m : Nat) (hf : Nums .u32 h v f) (hd : Dg f) (hc : c < 4294967296) (hm : m < 4294967296) (hlen : f.length < 100000000) :
    Spec E.P f_modpoly_Scale #[v, vnum .u32 c, vnum .u32 m] h (fun v' h' => Ext h h' ∧ Nums .u32 h' v' (cnf (mx m) f.length (fun i => co f i * c)) ∧ Ty h' v') := by
  have hf0 := hf
  obtain ⟨a, cap, rfl, hcap, -⟩ := hf
  refine Spec.intro hE (args := [_, _, _]) F_modpoly_Scale rfl rfl (Nat.le_of_ble_eq_true rfl) ?_
  refine DMake.intro f.length f.length rfl rfl (Nat.le_refl _) (by omega) (by omega) ?_
  intro zb h1 hzb hx1 hs1 hg1
  refine DLoop.intro hE (ι := Nat × List Nat) (fun s => [(15, .int .i64 s.1), (13, .slice a f.length cap), (14, .int .i64 f.length), (7, .slice (some ⟨zb, 0, none⟩) f.length f.length), (1, vnum .u32 c), (2, vnum .u32 m)])
    (fun s h' => Ext h h' ∧ s.1 ≤ f.length ∧ NumB h' zb .u32 t_uint32 s.2 ∧ Laid (mx m) f.length (fun i => co f i * c) s.1 s.2) (fun s => f.length - s.1) (0, List.replicate f.length 0) rfl ⟨rfl, rfl, rfl, rfl, rfl, rfl, trivial⟩ ⟨hx1, Nat.zero_le _, NumB.zeros hg1, Laid.start⟩ ?_
  rintro ⟨i, Z⟩ h3 ⟨hx3, hi, hZ, hL⟩
  dsimp only at hi hZ hL ⊢
  refine bsp.dec (fun hlt => ?_) (fun hlt => ?_)
  · have hif : i < f.length := by omega
    obtain ⟨b, off, rfl, hcell⟩ := hf0.at hif
    refine DIdx.intro i rfl rfl hif ?_
    refine DLoad.scalar (hx3.cell hcell) ?_
    refine (modMul_any h3 (co f i) c m (hd.co i) hc hm).mono ?_
    rintro _ _ ⟨rfl, rfl⟩
    refine DIdx.intro i rfl rfl hif ?_
    refine DStore.num i (Nat.zero_add _) hZ (by rw [hL.len]; exact hif) ?_
    intro h4 hu4 hZ4
    refine DWrap.is ((i + 1 : Nat) : Int) (by omega) (by omega) ?_
    refine ⟨(i + 1, _), ⟨rfl, rfl, rfl, rfl, rfl, rfl, trivial⟩, ⟨((hx3.old (Nat.le_refl _)).upd hu4 (by omega)).toExt, by dsimp only; omega, hZ4, hL.next hif rfl⟩, by dsimp only; omega⟩
  · obtain rfl : i = f.length := by omega
    have hn := hZ.nums
    rw [hL.len] at hn
    refine (modtrim_T h3 _ Z hn (by rw [hL.len]; omega)).mono ?_
    rintro v4 h4 ⟨rfl, hv4, hb4⟩
    rw [hL.done] at hv4
    exact ⟨hx3, hv4, (Ty.block hZ).same hb4⟩
theorem modScale_any (h : Heap) (v : Value) (f : List Nat) (c m : Nat) (hf : Nums .u32 h v f) (hd : Dg f) (hc : c < 4294967296) (hm : m < 4294967296) (hlen : f.length < 100000000) :
    Spec E.P f_modpoly_Scale #[v, vnum .u32 c, vnum .u32 m] h (fun v' h' => Ext h h' ∧ Nums .u32 h' v' (cnf (mx m) f.length (fun i => co f i * c))) :=
  (modScale_T h v f c m hf hd hc hm hlen).mono fun _ _ hh => ⟨hh.1, hh.2.1⟩

theorem modDeriv_any (h : Heap) (v : Value) (f : List Nat) (m : Nat) (hf : Nums .u32 h v f) (hd : Dg f) (hm : m < 4294967296) (hlen : f.length < 100000000) :
    Spec E.P f_modpoly_Derivative #[v, vnum .u32 m] h (fun v' h' => Ext h h' ∧ Nums .u32 h' v' (cnf (mx m) (f.length - 1) (fun i => co f (i + 1) * (i + 1)))) := by
  have hf0 := hf
  obtain ⟨a, cap, rfl, hcap, -⟩ := hf
  refine Spec.intro hE (args := [_, _]) F_modpoly_Derivative rfl rfl (Nat.le_of_ble_eq_true rfl) ?_
  have k1 := mx_lt hm
  have k2 := mx_pos m
  refine bsp.dec (p := (f.length : Int) = 0) (fun hz => ?_) (fun hz => ?_)
  · have : f = [] := List.eq_nil_of_length_eq_zero (by omega)
    subst this
    exact ⟨Ext.rfl, Nums.nil _ _⟩
  refine DWrap.eq (m := mx m) (by rw [max_u32, IntKind.wrap_u64]; omega) ?_
  refine DWrap.is ((f.length - 1 : Nat) : Int) (by omega) (by omega) ?_
  refine DMake.intro (f.length - 1) (f.length - 1) rfl rfl (Nat.le_refl _) (by omega) (by omega) ?_
  generalize hN : f.length - 1 = N at *
  intro zb h1 hzb hx1 hs1 hg1
  refine DLoop.intro hE (ι := Nat × List Nat) (fun s => [(20, .int .i64 s.1), (19, .int .i64 N), (0, .slice a f.length cap), (6, .slice (some ⟨zb, 0, none⟩) N N), (5, vnum .u64 (mx m)), (1, vnum .u32 m)])
    (fun s h' => Ext h h' ∧ s.1 ≤ N ∧ NumB h' zb .u32 t_uint32 s.2 ∧ Laid (mx m) N (fun i => co f (i + 1) * (i + 1)) s.1 s.2) (fun s => N - s.1) (0, List.replicate N 0) rfl ⟨rfl, rfl, rfl, rfl, rfl, rfl, trivial⟩ ⟨hx1, Nat.zero_le _, NumB.zeros hg1, Laid.start⟩ ?_
  rintro ⟨i, Z⟩ h3 ⟨hx3, hi, hZ, hL⟩
  dsimp only at hi hZ hL ⊢
  refine bsp.dec (fun hlt => ?_) (fun hlt => ?_)
  · have hiN : i < N := by omega
    obtain ⟨b, off, rfl, hcell⟩ := hf0.at (i := i + 1) (by omega)
    refine DDraw.intro hE (.take 0 (.take 1 (.take 2 (.take 3 (.take 4 (.take 5 (.take 7 (.take 8 (.take 9 (.take 10 (.take 11 (.take 12 (.take 13 (.take 6 (.one 14 (.take 15 (.one 16 .done))))))))))))))))) (some 16) (· = h3) (by kernel_rfl) rfl ?_
    refine DWrap.is ((i + 1 : Nat) : Int) (by omega) (by omega) ?_
    refine DIdx.intro (i + 1) rfl rfl (by omega) ?_
    refine DWrap.is ((i + 1 : Nat) : Int) (by omega) (by omega) ?_
    refine DWrap.eq (m := ((i + 1 : Nat) : Int)) (by rw [IntKind.wrap_u64]; omega) ?_
    refine ⟨by omega, ?_⟩
    rw [tmod_nat]
    have h5 := Nat.mod_lt (i + 1) k2
    refine DWrap.eq (m := (((i + 1) % mx m : Nat) : Int)) (by rw [IntKind.wrap_u32']; omega) ?_
    refine QLoad.scalar (fun _ e => by rw [e]; exact hx3.cell hcell) ?_
    refine (modMul_any h3 (co f (i + 1)) ((i + 1) % mx m) m (hd.co _) (by omega) hm).mono ?_
    rintro _ _ ⟨rfl, rfl⟩
    refine ⟨rfl, ?_⟩
    refine DIdx.intro i rfl rfl hiN ?_
    refine DStore.num i (Nat.zero_add _) hZ (by rw [hL.len]; exact hiN) ?_
    intro h4 hu4 hZ4
    refine DWrap.is ((i + 1 : Nat) : Int) (by omega) (by omega) ?_
    refine ⟨(i + 1, _), ⟨rfl, rfl, rfl, rfl, rfl, rfl, trivial⟩, ⟨((hx3.old (Nat.le_refl _)).upd hu4 (by omega)).toExt, by dsimp only; omega, hZ4, hL.next hiN (by rw [Nat.mul_mod_mod])⟩, by dsimp only; omega⟩
  · obtain rfl : i = N := by omega
    have hn := hZ.nums
    rw [hL.len] at hn
    refine (modtrim_any h3 _ Z hn (by rw [hL.len]; omega)).mono ?_
    rintro v4 h4 ⟨rfl, hv4⟩
    rw [hL.done] at hv4
    exact ⟨hx3, hv4⟩

/-- Horner's scheme from the top -/
def horner (f : List Nat) (a M : Nat) : Nat → Nat
  | 0 => 0
  | n + 1 => (horner f a M n * a % M + co f (f.length - 1 - n)) % M
theorem horner_lt {f : List Nat} {a M n : Nat} (hM : 0 < M) : horner f a M n < M := by
  cases n with
  | zero => exact hM
  | succ n => exact Nat.mod_lt _ hM
theorem modEval_any (h : Heap) (v : Value) (f : List Nat) (a m : Nat) (hf : Nums .u32 h v f) (hd : Dg f) (ha : a < 4294967296) (hm : m < 4294967296) (hlen : f.length < 100000000) :
    Spec E.P f_modpoly_Eval #[v, vnum .u32 a, vnum .u32 m] h (fun v' h' => h' = h ∧ v' = vnum .u32 (horner f a (mx m) f.length)) := by
  have hf0 := hf
  obtain ⟨fa, cap, rfl, hcap, -⟩ := hf
  refine Spec.intro hE (args := [_, _, _]) F_modpoly_Eval rfl rfl (Nat.le_of_ble_eq_true rfl) ?_
  have k1 := mx_lt hm
  have k2 := mx_pos m
  refine DWrap.is ((f.length : Int) - 1) rfl (by omega) ?_
  refine DLoop.intro hE (ι := Nat) (fun n => [(8, .int .i64 ((f.length : Int) - 1 - n)), (7, vnum .u32 (horner f a (mx m) n)), (0, .slice fa f.length cap), (1, vnum .u32 a), (2, vnum .u32 m)])
    (fun n h' => h' = h ∧ n ≤ f.length) (fun n => f.length - n) 0 rfl ⟨by simp; rfl, rfl, rfl, rfl, rfl, trivial⟩ ⟨rfl, Nat.zero_le _⟩ ?_
  rintro n h' ⟨rfl, hn⟩
  refine bsp.dec (p := ((f.length : Int) - 1 - n) ≥ 0) (fun hge => ?_) (fun hlt => ?_)
  · obtain ⟨b, off, rfl, hcell⟩ := hf0.at (i := f.length - 1 - n) (by omega)
    refine DDraw.intro hE (.take 0 (.take 1 (.take 2 (.take 4 (.take 5 (.take 6 (.take 8 (.take 7 (.one 3 (.one 9 (.take 10 .done))))))))))) none (· = h') (by kernel_rfl) rfl ?_
    refine DIdx.intro (f.length - 1 - n) rfl (by omega) (by omega) ?_
    refine QLoad.scalar (fun _ e => by rw [e]; exact hcell) ?_
    have hl := horner_lt (f := f) (a := a) (n := n) k2
    refine (modMul_any h' _ a m (by omega) ha hm).mono ?_
    rintro _ _ ⟨rfl, rfl⟩
    refine ⟨rfl, ?_⟩
    have h5 := Nat.mod_lt (horner f a (mx m) n * a) k2
    refine (modAdd_any _ _ (co f (f.length - 1 - n)) m (by omega) (hd.co _) hm).mono ?_
    rintro _ _ ⟨rfl, rfl⟩
    refine ⟨rfl, ?_⟩
    refine DWrap.is ((f.length : Int) - 1 - (n + 1 : Nat)) (by omega) (by omega) ?_
    exact ⟨n + 1, ⟨rfl, rfl, rfl, rfl, rfl, trivial⟩, ⟨rfl, by omega⟩, by omega⟩
  · obtain rfl : n = f.length := by omega
    exact ⟨rfl, rfl⟩
end Go.Vc
