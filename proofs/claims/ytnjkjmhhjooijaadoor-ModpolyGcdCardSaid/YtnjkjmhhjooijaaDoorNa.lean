/- ModpolyArithmetic returns true: its walk, and its law. -/
import Derived.Test.YtnjkjmhhjooijaaDoorMn
namespace Go.Vc
open Go.Proofs

theorem cnf_same {M n n' : Nat} {c c' : Nat → Nat} (h1 : ∀ i, n ≤ i → c i % M = 0) (h2 : ∀ i, n' ≤ i → c' i % M = 0) (h : ∀ i, c i % M = c' i % M) : cnf M n c = cnf M n' c' := cnf_congr fun i => by
  by_cases a : i < n <;> by_cases b : i < n'
  · rw [if_pos a, if_pos b, h]
  · rw [if_pos a, if_neg b, h, h2 i (by omega)]
  · rw [if_neg a, if_pos b, ← h, h1 i (by omega)]
  · rw [if_neg a, if_neg b]
/-- the coefficients of what f is modulo M -/
theorem co_red {M : Nat} (f : List Nat) (i : Nat) : co (cnf M f.length (co f)) i = co f i % M := by
  rw [co_cnf]
  split
  · rfl
  · rw [co_ge (f := f) (by omega), Nat.zero_mod]
theorem neg_mod {M b : Nat} (hb : b < M) : (M - 1) * b % M = (M - b) % M := by
  by_cases h : b = 0
  · subst h; rw [Nat.mul_zero, Nat.zero_mod, Nat.sub_zero, Nat.mod_self]
  · have e : (M - 1) * b = (M - b) + M * (b - 1) := by
      rw [Nat.sub_mul, Nat.one_mul, Nat.mul_sub, Nat.mul_one]
      have : M ≤ M * b := Nat.le_mul_of_pos_right _ (by omega)
      omega
    rw [e, Nat.add_mul_mod_self_left]
theorem red_len {M : Nat} {f : List Nat} {i : Nat} (h : (cnf M f.length (co f)).length ≤ i) : co f i % M = 0 := by rw [← co_red, co_ge h]

theorem law_add {M : Nat} (f g : List Nat) : cnf M (max f.length g.length) (fun i => co f i + co g i) = cnf M (max (cnf M f.length (co f)).length (cnf M g.length (co g)).length) (fun i => co (cnf M f.length (co f)) i + 1 * co (cnf M g.length (co g)) i) :=
  cnf_same (fun i hi => by rw [co_ge (f := f) (by omega), co_ge (f := g) (by omega)]; exact Nat.zero_mod _) (fun i hi => by rw [co_ge (f := cnf M f.length (co f)) (by omega), co_ge (f := cnf M g.length (co g)) (by omega)]; exact Nat.zero_mod _)
    fun i => by rw [co_red, co_red, Nat.one_mul, ← Nat.add_mod]
theorem law_sub {M : Nat} (hM : 0 < M) (f g : List Nat) : cnf M (max f.length g.length) (fun i => co f i + (M - co g i % M)) = cnf M (max (cnf M f.length (co f)).length (cnf M g.length (co g)).length) (fun i => co (cnf M f.length (co f)) i + (M - 1) * co (cnf M g.length (co g)) i) :=
  cnf_same (fun i hi => by rw [co_ge (f := f) (by omega), co_ge (f := g) (by omega), Nat.zero_mod, Nat.sub_zero, Nat.zero_add, Nat.mod_self]) (fun i hi => by rw [co_ge (f := cnf M f.length (co f)) (by omega), co_ge (f := cnf M g.length (co g)) (by omega)]; simp)
    fun i => by rw [co_red, co_red, Nat.add_mod _ ((M - 1) * _), neg_mod (Nat.mod_lt _ hM), Nat.mod_mod, ← Nat.add_mod]
theorem law_mul {M : Nat} (f g : List Nat) : mulM M f g = mulM M (cnf M f.length (co f)) (cnf M g.length (co g)) := by
  have h : ∀ n, conv f g n % M = conv (cnf M f.length (co f)) (cnf M g.length (co g)) n % M := conv_mod (fun i => by rw [co_red, Nat.mod_mod]) (fun i => by rw [co_red, Nat.mod_mod])
  refine cnf_same (fun i hi => ?_) (fun i hi => ?_) h
  · rw [conv_ge (by omega), Nat.zero_mod]
  · rw [conv_ge (by omega), Nat.zero_mod]
theorem law_scale {M : Nat} (f : List Nat) (c : Nat) : cnf M f.length (fun i => co f i * c) = cnf M (max ([] : List Nat).length (cnf M f.length (co f)).length) (fun i => co [] i + c * co (cnf M f.length (co f)) i) :=
  cnf_same (fun i hi => by rw [co_ge hi, Nat.zero_mul, Nat.zero_mod]) (fun i hi => by rw [co_ge (f := []) (by simp), co_ge (f := cnf M f.length (co f)) (by omega)]; simp)
    fun i => by rw [co_red, co_ge (f := []) (by simp), Nat.zero_add, Nat.mul_mod_mod, Nat.mul_comm]

set_option maxHeartbeats 1600000 in
theorem ModpolyArithmetic_any (h : Heap) (v w : Value) (f g : List Nat) (c m : Nat) (hf : Nums .u32 h v f) (hg : Nums .u32 h w g) (hdf : Dg f) (hdg : Dg g) (hc : c < 4294967296) (hm : m < 4294967296) :
    Spec E.P f_cylinderlaw10_ModpolyArithmetic #[v, w, .agg #[vnum .u32 c, vnum .u32 m]] h (fun v' h' => Ext h h' ∧ v' = .bool true) := by
  have k2 := mx_pos m
  have k1 := mx_lt hm
  refine Spec.intro hE (args := [_, _, _]) F_cylinderlaw10_ModpolyArithmetic rfl rfl (Nat.le_of_ble_eq_true rfl) ?_
  refine DNew.intro ?_
  intro tb h1 htb hx1 hs1 hg1
  have hw1 : Whole h1 tb t_2_uint32 [vnum .u32 c, vnum .u32 m] := hg1
  refine (fit_any h1).mono ?_
  rintro _ h2 ⟨hx2, rfl⟩
  have hf0 := hf
  have hg0 := hg
  obtain ⟨a, cap, rfl, -⟩ := hf
  obtain ⟨b, cap2, rfl, -⟩ := hg
  refine ⟨⟨rfl, by decide, rfl, rfl, rfl, rfl, trivial⟩, ?_⟩
  refine DNew.intro ?_
  intro lb h3 hlb hx3 hs3 hg3
  refine (few_any h3 lb t_sl_uint32 [.slice a f.length cap, .slice b g.length cap2] [f.length, g.length] hg3 rfl (fun i h1 h2 => ?_) (by simp)).mono ?_
  · match i, h1 with
    | 0, _ => exact ⟨a, cap, rfl⟩
    | 1, _ => exact ⟨b, cap2, rfl⟩
  rintro _ h3 ⟨rfl, r, rfl, hr⟩
  have x03 := hx1.trans (hx2.trans hx3)
  cases r
  · exact ⟨x03, rfl⟩
  have hlf : f.length ≤ 12 := hr rfl _ (by simp)
  have hlg : g.length ≤ 12 := hr rfl _ (by simp)
  have hw3 := hw1.ext (hx2.trans hx3)
  refine DDraw.intro hE (.take 0 (.take 2 (.take 1 (.take 4 (.take 3 (.take 5 .done)))))) none (· = h3) (by kernel_rfl) rfl ?_
  refine DIdx.intro 0 rfl rfl (by decide) ?_
  refine DIdx.intro 1 rfl rfl (by decide) ?_
  refine QLoad.scalar (fun _ e => by rw [e]; exact hw3.get 0 rfl) ?_
  refine QLoad.scalar (fun _ e => by rw [e]; exact hw3.get 1 rfl) ?_
  refine (lawModulus_any h3 m hm).mono ?_
  rintro _ h3 ⟨rfl, rfl⟩
  have hf3 := hf0.ext x03
  have hg3 := hg0.ext x03
  refine (coefs_any h3 _ f m hf3 hdf hm (by omega)).mono ?_
  rintro v4 h4 ⟨hx4, hA⟩
  refine (coefs_any h4 _ g m (hg3.ext hx4) hdg hm (by omega)).mono ?_
  rintro v5 h5 ⟨hx5, hB⟩
  have hA := hA.ext hx5
  have hf5 := hf3.ext (hx4.trans hx5)
  have hg5 := hg3.ext (hx4.trans hx5)
  have x05 := x03.trans (hx4.trans hx5)
  have cA : Can (mx m) (cnf (mx m) f.length (co f)) := cnf_can k2
  have cB : Can (mx m) (cnf (mx m) g.length (co g)) := cnf_can k2
  have lA := cnf_len (mx m) f.length (co f)
  have lB := cnf_len (mx m) g.length (co g)
  have dgc : ∀ n c, Dg (cnf (mx m) n c) := fun n c => (cnf_can k2).dg (by omega)
  have lc := cnf_len (mx m)
  -- Normal
  refine (modNormal_any h5 _ f m hf5 hdf hm (by omega)).mono ?_
  rintro v6 h6 ⟨hx6, hv6⟩
  refine (is_any h6 v6 v4 _ _ hv6 (hA.ext hx6) (dgc _ _) (by omega) (by omega)).mono ?_
  rintro _ h6 ⟨rfl, rfl⟩
  rw [decide_eq_true rfl]
  -- Add
  refine (modAdd2_any h6 _ _ f g m (hf5.ext hx6) (hg5.ext hx6) hdf hdg hm (by omega) (by omega)).mono ?_
  rintro v7 h7 ⟨hx7, hv7⟩
  have x57 := hx6.trans hx7
  refine (refSum_any h7 v4 v5 _ _ 1 (mx m) (hA.ext x57) (hB.ext x57) k2 k1 (fun i => Nat.lt_trans (cA.co_lt k2 i) k1) (fun i => Nat.lt_trans (cB.co_lt k2 i) k1) (by omega) (by omega)).mono ?_
  rintro v8 h8 ⟨hx8, hv8⟩
  rw [← law_add] at hv8
  have l1 := lc (max f.length g.length) (fun i => co f i + co g i)
  refine (is_any h8 v7 v8 _ _ (hv7.ext hx8) hv8 (dgc _ _) (by omega) (by omega)).mono ?_
  rintro _ h8 ⟨rfl, rfl⟩
  rw [decide_eq_true rfl]
  have x58 := x57.trans hx8
  -- Sub
  refine (modSub2_any h8 _ _ f g m (hf5.ext x58) (hg5.ext x58) hdf hdg hm (by omega) (by omega)).mono ?_
  rintro v9 h9 ⟨hx9, hv9⟩
  have x59 := x58.trans hx9
  refine DWrap.eq (m := ((mx m - 1 : Nat) : Int)) (by rw [IntKind.wrap_u64]; omega) ?_
  refine (refSum_any h9 v4 v5 _ _ (mx m - 1) (mx m) (hA.ext x59) (hB.ext x59) k2 k1 (fun i => Nat.lt_trans (cA.co_lt k2 i) k1) (fun i => Nat.lt_trans (cB.co_lt k2 i) k1) (by omega) (by omega)).mono ?_
  rintro v10 h10 ⟨hx10, hv10⟩
  rw [← law_sub k2] at hv10
  have l2 := lc (max f.length g.length) (fun i => co f i + (mx m - co g i % mx m))
  refine (is_any h10 v9 v10 _ _ (hv9.ext hx10) hv10 (dgc _ _) (by omega) (by omega)).mono ?_
  rintro _ h10 ⟨rfl, rfl⟩
  rw [decide_eq_true rfl]
  have x510 := x59.trans hx10
  -- Mul
  refine (modMul2_any h10 _ _ f g m (hf5.ext x510) (hg5.ext x510) hdf hdg hm (by omega) (by omega)).mono ?_
  rintro v11 h11 ⟨hx11, hv11⟩
  have x511 := x510.trans hx11
  refine (refProduct_any h11 v4 v5 _ _ (mx m) (hA.ext x511) (hB.ext x511) cA cB k2 k1 (by omega) (by omega)).mono ?_
  rintro v12 h12 ⟨hx12, hv12⟩
  rw [← law_mul] at hv12
  have l3 := lc (f.length + g.length) (conv f g)
  refine (is_any h12 v11 v12 _ _ (hv11.ext hx12) hv12 (dgc _ _) (by unfold mulM; omega) (by unfold mulM; omega)).mono ?_
  rintro _ h12 ⟨rfl, rfl⟩
  rw [decide_eq_true rfl]
  have x512 := x511.trans hx12
  -- Scale
  refine (modScale_any h12 _ f c m (hf5.ext x512) hdf hc hm (by omega)).mono ?_
  rintro v13 h13 ⟨hx13, hv13⟩
  have x513 := x512.trans hx13
  refine DWrap.eq (m := (c : Nat)) (by rw [IntKind.wrap_u64]; omega) ?_
  refine (refSum_any h13 _ v4 [] _ c (mx m) (Nums.nil _ _) (hA.ext x513) k2 k1 (fun i => by rw [co_ge (by simp)]; decide) (fun i => Nat.lt_trans (cA.co_lt k2 i) k1) (by decide) (by omega)).mono ?_
  rintro v14 h14 ⟨hx14, hv14⟩
  rw [← law_scale] at hv14
  have l4 := lc f.length (fun i => co f i * c)
  refine (is_any h14 v13 v14 _ _ (hv13.ext hx14) hv14 (dgc _ _) (by omega) (by omega)).mono ?_
  rintro _ h14 ⟨rfl, rfl⟩
  rw [decide_eq_true rfl]
  exact ⟨x05.trans (x513.trans hx14), rfl⟩
end Go.Vc
