/- modpoly: products and comparisons; the sums, products and values of the document. -/
import Derived.Test.YtnjkjmhhjooijaaDoorMd
namespace Go.Vc
open Go.Proofs

/-- the coefficient n of a product of which the rows before i are laid, and of row i the columns before j -/
def convU (f g : List Nat) (i j n : Nat) : Nat := sumN i (fun k => if k ≤ n then co f k * co g (n - k) else 0) + (if i ≤ n ∧ n < i + j then co f i * co g (n - i) else 0)
theorem convU_row {f g : List Nat} {i n : Nat} : convU f g i g.length n = convU f g (i + 1) 0 n := by
  unfold convU
  simp only [sumN]
  rw [if_neg (c := i + 1 ≤ n ∧ n < i + 1 + 0) (by omega), Nat.add_zero]
  congr 1
  by_cases h1 : i ≤ n
  · rw [if_pos h1]
    by_cases h2 : n < i + g.length
    · rw [if_pos ⟨h1, h2⟩]
    · rw [if_neg (by omega), co_ge (f := g) (by omega), Nat.mul_zero]
  · rw [if_neg h1, if_neg (by omega)]
theorem convU_col {f g : List Nat} {i j n : Nat} : convU f g i (j + 1) n = convU f g i j n + (if n = i + j then co f i * co g j else 0) := by
  unfold convU
  rw [Nat.add_assoc]
  congr 1
  by_cases h : n = i + j
  · subst h
    rw [if_pos (by omega), if_neg (by omega), if_pos rfl, show i + j - i = j by omega, Nat.zero_add]
  · rw [if_neg h, Nat.add_zero]
    by_cases h2 : i ≤ n ∧ n < i + j
    · rw [if_pos h2, if_pos (by omega), Nat.add_zero]
    · rw [if_neg h2, if_neg (by omega)]
theorem convU_end {f g : List Nat} {n : Nat} : convU f g f.length 0 n = conv f g n := by
  unfold convU conv
  rw [if_neg (by omega), Nat.add_zero]
  rcases Nat.le_total f.length (n + 1) with h | h
  · rw [sumN_more (n := f.length) h fun i hi => by rw [co_ge (f := f) hi, Nat.zero_mul]]
    exact sumN_congr fun i hi => by rw [if_pos (by omega)]
  · rw [sumN_more (n := n + 1) h fun i hi => by rw [if_neg (by omega)]]
    exact sumN_congr fun i hi => by rw [if_pos (by omega)]

structure RowsL (M n : Nat) (f g : List Nat) (i j : Nat) (Z : List Nat) : Prop where
  len : Z.length = n
  cf : ∀ k, co Z k = if k < n then convU f g i j k % M else 0
theorem RowsL.step {M n i j v : Nat} {f g Z : List Nat} (r : RowsL M n f g i j Z) (hn : i + j < n) (hv : v = (co Z (i + j) + co f i * co g j) % M) : RowsL M n f g i (j + 1) (Z.set (i + j) v) := by
  refine ⟨by rw [List.length_set]; exact r.len, fun k => ?_⟩
  rw [co_set (by rw [r.len]; exact hn), convU_col]
  by_cases h : k = i + j
  · subst h
    rw [if_pos rfl, if_pos rfl, if_pos hn, hv, r.cf, if_pos hn, Nat.mod_add_mod]
  · rw [if_neg h, if_neg h, Nat.add_zero]; exact r.cf k
theorem RowsL.row {M n i : Nat} {f g Z : List Nat} (r : RowsL M n f g i g.length Z) : RowsL M n f g (i + 1) 0 Z := ⟨r.len, fun k => by rw [r.cf, convU_row]⟩
theorem RowsL.start {M n : Nat} {f g : List Nat} : RowsL M n f g 0 0 (List.replicate n 0) := ⟨by simp, fun k => by rw [co_zeros]; unfold convU; simp [sumN]⟩
theorem RowsL.done {M n : Nat} {f g Z : List Nat} (r : RowsL M n f g f.length 0 Z) : trimL Z = cnf M n (conv f g) := cnf_eq (trimL_trimmed _) fun i => by rw [co_trimL, r.cf, convU_end]




set_option maxHeartbeats 800000 in
theorem modMul2_any (h : Heap) (v w : Value) (f g : List Nat) (m : Nat) (hf : Nums .u32 h v f) (hg : Nums .u32 h w g) (hdf : Dg f) (hdg : Dg g) (hm : m < 4294967296) (hlf : f.length < 1000000) (hlg : g.length < 1000000) :
    Spec E.P f_modpoly_Mul #[v, w, vnum .u32 m] h (fun v' h' => Ext h h' ∧ Nums .u32 h' v' (mulM (mx m) f g)) := by
  refine Spec.intro hE (args := [_, _, _]) F_modpoly_Mul rfl rfl (Nat.le_of_ble_eq_true rfl) ?_
  have k1 := mx_lt hm
  have k2 := mx_pos m
  refine (modNormal_any h v f m hf hdf hm (by omega)).mono ?_
  rintro w1 h1 ⟨hx1, hw1⟩
  refine (modNormal_any h1 w g m (hg.ext hx1) hdg hm (by omega)).mono ?_
  rintro w2 h2 ⟨hx2, hw2⟩
  have hw1 := hw1.ext hx2
  have hx2 := hx1.trans hx2
  have cF : Can (mx m) (cnf (mx m) f.length (co f)) := cnf_can k2
  have cG : Can (mx m) (cnf (mx m) g.length (co g)) := cnf_can k2
  have lF := cnf_len (mx m) f.length (co f)
  have lG := cnf_len (mx m) g.length (co g)
  have key : ∀ n, conv (cnf (mx m) f.length (co f)) (cnf (mx m) g.length (co g)) n % mx m = conv f g n % mx m := conv_mod (fun i => by
    rw [co_cnf]
    split
    · rw [Nat.mod_mod]
    · rename_i hi; rw [co_ge (f := f) (by omega)]) (fun i => by
    rw [co_cnf]
    split
    · rw [Nat.mod_mod]
    · rename_i hi; rw [co_ge (f := g) (by omega)])
  have hlow : ∀ F G : List Nat, (∀ n, conv F G n % mx m = conv f g n % mx m) → F.length + G.length ≤ f.length + g.length → ∀ N, F.length + G.length ≤ N + 1 → N ≤ f.length + g.length → cnf (mx m) N (conv F G) = mulM (mx m) f g := fun F G hk hl N hN hN2 => cnf_congr fun i => by
    by_cases h1 : i < N
    · rw [if_pos h1, if_pos (by omega), hk]
    · rw [if_neg h1]
      by_cases h2 : i < f.length + g.length
      · rw [if_pos h2, ← hk, conv_ge (by omega), Nat.zero_mod]
      · rw [if_neg h2]
  generalize cnf (mx m) f.length (co f) = F at *
  generalize cnf (mx m) g.length (co g) = G at *
  have hw10 := hw1
  have hw20 := hw2
  obtain ⟨a, cap, rfl, hcap, -⟩ := hw1
  obtain ⟨b, cap2, rfl, hcap2, -⟩ := hw2
  have fin : ∀ h', Ext h h' → (F = [] ∨ G = []) → Ext h h' ∧ Nums .u32 h' (.slice none 0 0) (mulM (mx m) f g) := fun h' hx he => ⟨hx, by
    have : mulM (mx m) f g = [] := by
      refine trimmed_unique (cnf_trimmed _ _ _) (fun h => absurd rfl h) fun i => ?_
      unfold mulM
      rw [co_cnf, ← key]
      have : conv F G i = 0 := sumN_zero fun j _ => by
        rcases he with rfl | rfl
        · rw [co_ge (f := []) (by simp), Nat.zero_mul]
        · rw [co_ge (f := []) (by simp), Nat.mul_zero]
      rw [this, Nat.zero_mod, ite_self]; rfl
    rw [this]; exact Nums.nil _ _⟩
  refine bsp.intro (b := (F.length : Int) == 0) (fun hz => ?_) (fun hz => ?_)
  · exact fin h2 hx2 (.inl (List.eq_nil_of_length_eq_zero (by simpa using hz)))
  have hF0 : F.length ≠ 0 := by simpa using hz
  conv => whnf
  refine bsp.intro (b := (G.length : Int) == 0) (fun hz => ?_) (fun hz => ?_)
  · exact fin h2 hx2 (.inr (List.eq_nil_of_length_eq_zero (by simpa using hz)))
  have hG0 : G.length ≠ 0 := by simpa using hz
  refine DWrap.eq (m := mx m) (by rw [max_u32, IntKind.wrap_u64]; omega) ?_
  refine DWrap.is ((F.length + G.length : Nat) : Int) (by omega) (by omega) ?_
  refine DWrap.is ((F.length + G.length - 1 : Nat) : Int) (by omega) (by omega) ?_
  refine DMake.intro (F.length + G.length - 1) (F.length + G.length - 1) rfl rfl (Nat.le_refl _) (by omega) (by omega) ?_
  generalize hN : F.length + G.length - 1 = N at *
  intro zb h3 hzb hx3 hs3 hg3
  have s2 := hx2.size
  refine DLoop.intro hE (ι := Nat × List Nat) (fun s => [(39, .int .i64 s.1), (37, .slice a F.length cap), (38, .int .i64 F.length), (1, .slice b G.length cap2), (8, .slice (some ⟨zb, 0, none⟩) N N), (7, vnum .u64 (mx m))])
    (fun s h' => Ext h2 h' ∧ s.1 ≤ F.length ∧ NumB h' zb .u32 t_uint32 s.2 ∧ RowsL (mx m) N F G s.1 0 s.2) (fun s => F.length - s.1) (0, List.replicate N 0) rfl ⟨rfl, rfl, rfl, rfl, rfl, rfl, trivial⟩ ⟨hx3, Nat.zero_le _, NumB.zeros hg3, RowsL.start⟩ ?_
  rintro ⟨i, Z⟩ h4 ⟨hx4, hi, hZ, hR⟩
  dsimp only at hi hZ hR ⊢
  refine bsp.dec (fun hlt => ?_) (fun hlt => ?_)
  · have hiF : i < F.length := by omega
    obtain ⟨fb, fo, rfl, hc1⟩ := hw10.at hiF
    refine DIdx.intro i rfl rfl hiF ?_
    refine DLoad.scalar (hx4.cell hc1) ?_
    refine DLoop.intro hE (ι := Nat × List Nat) (fun s => [(46, .int .i64 s.1), (44, .slice b G.length cap2), (45, .int .i64 G.length), (9, .int .i64 i), (10, vnum .u32 (co F i)), (39, .int .i64 i), (37, .slice (some ⟨fb, fo, none⟩) F.length cap), (38, .int .i64 F.length), (1, .slice b G.length cap2), (8, .slice (some ⟨zb, 0, none⟩) N N), (7, vnum .u64 (mx m))])
      (fun s h' => Ext h2 h' ∧ s.1 ≤ G.length ∧ NumB h' zb .u32 t_uint32 s.2 ∧ RowsL (mx m) N F G i s.1 s.2) (fun s => G.length - s.1) (0, Z) rfl ⟨rfl, rfl, rfl, rfl, rfl, rfl, rfl, rfl, rfl, rfl, rfl, trivial⟩ ⟨hx4, Nat.zero_le _, hZ, hR⟩ ?_
    clear hZ hR hx4
    rintro ⟨j, Z⟩ h5 ⟨hx5, hj, hZ, hR⟩
    dsimp only at hj hZ hR ⊢
    refine bsp.dec (fun hlt2 => ?_) (fun hlt2 => ?_)
    · have hjG : j < G.length := by omega
      obtain ⟨gb, go, rfl, hc2⟩ := hw20.at hjG
      refine DIdx.intro j rfl rfl hjG ?_
      refine DLoad.scalar (hx5.cell hc2) ?_
      have hlen := hR.len
      have hij : i + j < Z.length := by omega
      have hcz : co Z (i + j) = Z[i + j] := co_lt hij
      have hzlt : Z[i + j] < 4294967296 := by
        rw [← hcz, hR.cf]
        split
        · exact Nat.lt_trans (Nat.mod_lt _ k2) k1
        · decide
      have hF := cF.co_lt k2 i
      have hG := cG.co_lt k2 j
      have hFG : co F i * co G j ≤ 4294967295 * 4294967295 := Nat.mul_le_mul (by omega) (by omega)
      have h5' := Nat.mod_lt (co F i * co G j) k2
      refine DDraw.intro hE (.take 0 (.take 1 (.take 2 (.take 3 (.take 4 (.take 5 (.take 6 (.take 7 (.take 8 (.take 11 (.take 12 (.take 13 (.take 14 (.take 15 (.take 16 (.take 17 (.take 19 (.take 9 (.take 10 (.take 18 (.take 20 (.take 21 (.take 22 (.one 23 .done)))))))))))))))))))))))) (some 23) (· = h5) (by kernel_rfl) rfl ?_
      refine DWrap.is ((i + j : Nat) : Int) (by omega) (by omega) ?_
      refine DWrap.is ((i + j : Nat) : Int) (by omega) (by omega) ?_
      refine DIdx.intro (i + j) rfl rfl (by omega) ?_
      refine DWrap.eq (m := (co F i : Nat)) (by rw [IntKind.wrap_u64]; omega) ?_
      refine DWrap.eq (m := (co G j : Nat)) (by rw [IntKind.wrap_u64]; omega) ?_
      refine DWrap.eq (m := (co F i * co G j : Nat)) (by rw [IntKind.wrap_u64, ← Int.natCast_mul]; omega) ?_
      refine ⟨by omega, ?_⟩
      rw [tmod_nat]
      refine QLoad.scalar (fun _ e => by rw [e]; exact hZ.cell hij) ?_
      refine DWrap.eq (m := (Z[i + j] : Nat)) (by rw [IntKind.wrap_u64]; omega) ?_
      refine DWrap.eq (m := (Z[i + j] + co F i * co G j % mx m : Nat)) (by rw [IntKind.wrap_u64]; omega) ?_
      refine ⟨by omega, ?_⟩
      rw [tmod_nat]
      have h6 := Nat.mod_lt (Z[i + j] + co F i * co G j % mx m) k2
      refine DWrap.eq (m := ((Z[i + j] + co F i * co G j % mx m) % mx m : Nat)) (by rw [IntKind.wrap_u32']; omega) ?_
      refine DIdx.intro (i + j) rfl rfl (by omega) ?_
      refine DStore.num (i + j) (Nat.zero_add _) hZ hij ?_
      intro h6 hu6 hZ6
      refine DWrap.is ((j + 1 : Nat) : Int) (by omega) (by omega) ?_
      refine ⟨(j + 1, _), ⟨rfl, rfl, rfl, rfl, rfl, rfl, rfl, rfl, rfl, rfl, rfl, trivial⟩, ⟨((hx5.old (Nat.le_refl _)).upd hu6 (by omega)).toExt, by dsimp only; omega, hZ6, hR.step (by omega) (by rw [← hcz, Nat.add_mod_mod])⟩, by dsimp only; omega⟩
    · obtain rfl : j = G.length := by omega
      refine DWrap.is ((i + 1 : Nat) : Int) (by omega) (by omega) ?_
      exact ⟨(i + 1, Z), ⟨rfl, rfl, rfl, rfl, rfl, rfl, trivial⟩, ⟨hx5, by dsimp only; omega, hZ, hR.row⟩, by dsimp only; omega⟩
  · obtain rfl : i = F.length := by omega
    have hn := hZ.nums
    rw [hR.len] at hn
    refine (modtrim_any h4 _ Z hn (by rw [hR.len]; omega)).mono ?_
    rintro v5 h5 ⟨rfl, hv5⟩
    rw [hR.done, hlow F G key (by omega) N (by omega) (by omega)] at hv5
    exact ⟨hx2.trans hx4, hv5⟩

set_option maxHeartbeats 800000 in
theorem refProduct_any (h : Heap) (v w : Value) (F G : List Nat) (k : Nat) (hw1 : Nums .u64 h v F) (hw2 : Nums .u64 h w G) (cF : Can k F) (cG : Can k G) (k2 : 0 < k) (k1 : k < 4294967296) (hlf : F.length < 1000000) (hlg : G.length < 1000000) :
    Spec E.P f_cylinderref10_Product #[v, w, vnum .u64 k] h (fun v' h' => Ext h h' ∧ Nums .u64 h' v' (mulM k F G)) := by
  refine Spec.intro hE (args := [_, _, _]) F_cylinderref10_Product rfl rfl (Nat.le_of_ble_eq_true rfl) ?_
  have hw10 := hw1
  have hw20 := hw2
  obtain ⟨a, cap, rfl, hcap, -⟩ := hw1
  obtain ⟨b, cap2, rfl, hcap2, -⟩ := hw2
  have fin : ∀ h', Ext h h' → (F = [] ∨ G = []) → Ext h h' ∧ Nums .u64 h' (.slice none 0 0) (mulM k F G) := fun h' hx he => ⟨hx, by
    have : mulM k F G = [] := by
      refine trimmed_unique (cnf_trimmed _ _ _) (fun h => absurd rfl h) fun i => ?_
      unfold mulM
      rw [co_cnf]
      have : conv F G i = 0 := sumN_zero fun j _ => by
        rcases he with rfl | rfl
        · rw [co_ge (f := []) (by simp), Nat.zero_mul]
        · rw [co_ge (f := []) (by simp), Nat.mul_zero]
      rw [this, Nat.zero_mod, ite_self]; rfl
    rw [this]; exact Nums.nil _ _⟩
  have hlow : ∀ N, F.length + G.length ≤ N + 1 → N ≤ F.length + G.length → cnf k N (conv F G) = mulM k F G := fun N hN hN2 => cnf_congr fun i => by
    by_cases h1 : i < N
    · rw [if_pos h1, if_pos (by omega)]
    · rw [if_neg h1]
      by_cases h2 : i < F.length + G.length
      · rw [if_pos h2, conv_ge (by omega), Nat.zero_mod]
      · rw [if_neg h2]
  refine bsp.intro (b := (F.length : Int) == 0) (fun hz => ?_) (fun hz => ?_)
  · exact fin h Ext.rfl (.inl (List.eq_nil_of_length_eq_zero (by simpa using hz)))
  have hF0 : F.length ≠ 0 := by simpa using hz
  conv => whnf
  refine bsp.intro (b := (G.length : Int) == 0) (fun hz => ?_) (fun hz => ?_)
  · exact fin h Ext.rfl (.inr (List.eq_nil_of_length_eq_zero (by simpa using hz)))
  have hG0 : G.length ≠ 0 := by simpa using hz
  refine DWrap.is ((F.length + G.length : Nat) : Int) (by omega) (by omega) ?_
  refine DWrap.is ((F.length + G.length - 1 : Nat) : Int) (by omega) (by omega) ?_
  refine DMake.intro (F.length + G.length - 1) (F.length + G.length - 1) rfl rfl (Nat.le_refl _) (by omega) (by omega) ?_
  generalize hN : F.length + G.length - 1 = N at *
  intro zb h3 hzb hx3 hs3 hg3
  refine DLoop.intro hE (ι := Nat × List Nat) (fun s => [(8, .int .i64 s.1), (0, .slice a F.length cap), (1, .slice b G.length cap2), (7, .slice (some ⟨zb, 0, none⟩) N N), (2, vnum .u64 k)])
    (fun s h' => Ext h h' ∧ s.1 ≤ F.length ∧ NumB h' zb .u64 t_uint64 s.2 ∧ RowsL k N F G s.1 0 s.2) (fun s => F.length - s.1) (0, List.replicate N 0) rfl ⟨rfl, rfl, rfl, rfl, rfl, trivial⟩ ⟨hx3, Nat.zero_le _, NumB.zeros hg3, RowsL.start⟩ ?_
  rintro ⟨i, Z⟩ h4 ⟨hx4, hi, hZ, hR⟩
  dsimp only at hi hZ hR ⊢
  refine bsp.dec (fun hlt => ?_) (fun hlt => ?_)
  · have hiF : i < F.length := by omega
    obtain ⟨fb, fo, rfl, hc1⟩ := hw10.at hiF
    refine DLoop.intro hE (ι := Nat × List Nat) (fun s => [(9, .int .i64 s.1), (8, .int .i64 i), (0, .slice (some ⟨fb, fo, none⟩) F.length cap), (1, .slice b G.length cap2), (7, .slice (some ⟨zb, 0, none⟩) N N), (2, vnum .u64 k)])
      (fun s h' => Ext h h' ∧ s.1 ≤ G.length ∧ NumB h' zb .u64 t_uint64 s.2 ∧ RowsL k N F G i s.1 s.2) (fun s => G.length - s.1) (0, Z) rfl ⟨rfl, rfl, rfl, rfl, rfl, rfl, trivial⟩ ⟨hx4, Nat.zero_le _, hZ, hR⟩ ?_
    clear hZ hR hx4
    rintro ⟨j, Z⟩ h5 ⟨hx5, hj, hZ, hR⟩
    dsimp only at hj hZ hR ⊢
    refine bsp.dec (fun hlt2 => ?_) (fun hlt2 => ?_)
    · have hjG : j < G.length := by omega
      obtain ⟨gb, go, rfl, hc2⟩ := hw20.at hjG
      have hlen := hR.len
      have hij : i + j < Z.length := by omega
      have hcz : co Z (i + j) = Z[i + j] := co_lt hij
      have hzlt : Z[i + j] < k := by
        rw [← hcz, hR.cf]
        split
        · exact Nat.mod_lt _ k2
        · exact k2
      have hF := cF.co_lt k2 i
      have hG := cG.co_lt k2 j
      have hFm := cF.mod k2 i
      have hGm := cG.mod k2 j
      have hFG : co F i * co G j ≤ (k - 1) * (k - 1) := Nat.mul_le_mul (by omega) (by omega)
      have hkk : (k - 1) * (k - 1) + (k - 1) ≤ 4294967294 * 4294967295 := by
        have : (k - 1) * (k - 1) + (k - 1) = (k - 1) * k := by
          rw [← Nat.mul_succ]; congr 1; omega
        rw [this]; exact Nat.mul_le_mul (by omega) (by omega)
      refine DDraw.intro hE (.take 0 (.take 1 (.take 2 (.take 3 (.take 4 (.take 5 (.take 6 (.take 7 (.take 8 (.take 10 (.take 11 (.take 12 (.take 14 (.take 16 (.take 17 (.take 18 (.take 20 (.take 24 (.take 9 (.take 13 (.take 15 (.take 19 (.take 21 (.take 22 (.take 23 (.take 25 (.take 26 (.one 27 .done)))))))))))))))))))))))))))) (some 27) (· = h5) (by kernel_rfl) rfl ?_
      refine DWrap.is ((i + j : Nat) : Int) (by omega) (by omega) ?_
      refine DWrap.is ((i + j : Nat) : Int) (by omega) (by omega) ?_
      refine DIdx.intro (i + j) rfl rfl (by omega) ?_
      refine DIdx.intro i rfl rfl hiF ?_
      refine DIdx.intro j rfl rfl hjG ?_
      refine QLoad.scalar (fun _ e => by rw [e]; exact hZ.cell hij) ?_
      refine QLoad.scalar (fun _ e => by rw [e]; exact hx5.cell hc1) ?_
      refine ⟨by omega, ?_⟩
      rw [tmod_nat, hFm]
      refine QLoad.scalar (fun _ e => by rw [e]; exact hx5.cell hc2) ?_
      refine ⟨by omega, ?_⟩
      rw [tmod_nat, hGm]
      refine DWrap.eq (m := (co F i * co G j : Nat)) (by rw [IntKind.wrap_u64, ← Int.natCast_mul]; omega) ?_
      refine DWrap.eq (m := (Z[i + j] + co F i * co G j : Nat)) (by rw [IntKind.wrap_u64]; omega) ?_
      refine ⟨by omega, ?_⟩
      rw [tmod_nat]
      refine DIdx.intro (i + j) rfl rfl (by omega) ?_
      refine DStore.num (i + j) (Nat.zero_add _) hZ hij ?_
      intro h6 hu6 hZ6
      refine DWrap.is ((j + 1 : Nat) : Int) (by omega) (by omega) ?_
      refine ⟨(j + 1, _), ⟨rfl, rfl, rfl, rfl, rfl, rfl, trivial⟩, ⟨((hx5.old (Nat.le_refl _)).upd hu6 (by omega)).toExt, by dsimp only; omega, hZ6, hR.step (by omega) (by rw [← hcz])⟩, by dsimp only; omega⟩
    · obtain rfl : j = G.length := by omega
      refine DWrap.is ((i + 1 : Nat) : Int) (by omega) (by omega) ?_
      exact ⟨(i + 1, Z), ⟨rfl, rfl, rfl, rfl, rfl, trivial⟩, ⟨hx5, by dsimp only; omega, hZ, hR.row⟩, by dsimp only; omega⟩
  · obtain rfl : i = F.length := by omega
    have hn := hZ.nums
    rw [hR.len] at hn
    refine (refTrim_any h4 _ Z hn (by rw [hR.len]; omega)).mono ?_
    rintro v5 h5 ⟨rfl, hv5⟩
    rw [hR.done, hlow N (by omega) (by omega)] at hv5
    exact ⟨hx4, hv5⟩
end Go.Vc
