/- ModpolyValues returns true: its walk, and its law. -/
import Derived.Test.YtnjkjmhhjooijaaDoorNa
namespace Go.Vc
open Go.Proofs

theorem co_cons_succ (a : Nat) (f : List Nat) (i : Nat) : co (a :: f) (i + 1) = co f i := rfl
theorem conv_cons (a : Nat) (f g : List Nat) (n : Nat) : conv (a :: f) g n = a * co g n + match n with | 0 => 0 | m + 1 => conv f g m := by
  unfold conv
  rw [sumN_shift]
  show a * co g n + _ = _
  congr 1
  cases n with
  | zero => rfl
  | succ m => exact sumN_congr fun i hi => by rw [co_cons_succ]; congr 2; omega
theorem evalS_cons (a : Nat) (f : List Nat) (x k : Nat) : evalS (a :: f) x (k + 1) = a + x * evalS f x k := by
  unfold evalS
  rw [sumN_shift]
  show a * 1 + _ = _
  rw [Nat.mul_one, Nat.mul_comm x, sumN_mul]
  congr 1
  exact sumN_congr fun i hi => by rw [co_cons_succ, Nat.pow_succ, Nat.mul_assoc]
theorem evalS_more {f : List Nat} {x N : Nat} (h : f.length ≤ N) : evalS f x N = evalS f x f.length := sumN_more h fun i hi => by rw [co_ge hi, Nat.zero_mul]
theorem eval_conv (g : List Nat) (x : Nat) : ∀ (f : List Nat) (N : Nat), f.length + g.length ≤ N → sumN N (fun n => conv f g n * x ^ n) = evalS f x f.length * evalS g x g.length
  | [], N, _ => by
    rw [show evalS [] x [].length = 0 from rfl, Nat.zero_mul]
    exact sumN_zero fun n _ => by rw [show conv [] g n = 0 from sumN_zero fun i _ => by rw [co_ge (f := []) (by simp), Nat.zero_mul], Nat.zero_mul]
  | a :: f, N, h => by
    simp only [List.length_cons] at h
    obtain ⟨N, rfl⟩ : ∃ k, N = k + 1 := ⟨N - 1, by omega⟩
    have ih := eval_conv g x f N (by omega)
    rw [List.length_cons, evalS_cons, Nat.add_mul]
    have e : sumN (N + 1) (fun n => conv (a :: f) g n * x ^ n) = sumN (N + 1) (fun n => a * (co g n * x ^ n)) + sumN (N + 1) (fun n => (match n with | 0 => 0 | m + 1 => conv f g m) * x ^ n) := by
      rw [← sumN_add]
      exact sumN_congr fun n _ => by rw [conv_cons, Nat.add_mul, Nat.mul_assoc]
    rw [e]
    congr 1
    · rw [← evalS_more (f := g) (N := N + 1) (by omega)]
      unfold evalS
      rw [Nat.mul_comm, sumN_mul]
      exact sumN_congr fun n _ => Nat.mul_comm _ _
    · rw [sumN_shift]
      show 0 * 1 + _ = _
      rw [Nat.zero_mul, Nat.zero_add, Nat.mul_assoc, ← ih, Nat.mul_comm, sumN_mul]
      exact sumN_congr fun n _ => by rw [Nat.pow_succ, Nat.mul_assoc]
theorem evalS_red {M : Nat} (f : List Nat) (x : Nat) : evalS (cnf M f.length (co f)) x (cnf M f.length (co f)).length % M = evalS f x f.length % M := by
  rw [← evalS_more (cnf_len M f.length (co f))]
  exact sumN_mod fun i _ => by rw [co_red, Nat.mod_mul_mod]
theorem evalS_mul {M : Nat} (f g : List Nat) (x : Nat) : evalS (mulM M f g) x (mulM M f g).length % M = (evalS f x f.length % M) * (evalS g x g.length % M) % M := by
  rw [← Nat.mul_mod, ← eval_conv g x f _ (Nat.le_refl _), ← evalS_more (f := mulM M f g) (N := f.length + g.length) (cnf_len M (f.length + g.length) (conv f g))]
  exact sumN_mod fun i hi => by
    unfold mulM
    rw [co_cnf, if_pos hi, Nat.mod_mul_mod]

/-- the derivative of the reduced coefficients, as the statement lays it -/
theorem law_deriv {M : Nat} (f : List Nat) : cnf M (f.length - 1) (fun i => co f (i + 1) * (i + 1)) = cnf M (cnf M f.length (co f)).length (fun i => (i + 1) * co (cnf M f.length (co f)) (i + 1)) :=
  cnf_same (fun i hi => by rw [co_ge (f := f) (by omega), Nat.zero_mul, Nat.zero_mod]) (fun i hi => by rw [co_ge (f := cnf M f.length (co f)) (by omega), Nat.mul_zero, Nat.zero_mod])
    fun i => by rw [co_red, Nat.mul_mod_mod, Nat.mul_comm]

set_option maxHeartbeats 3200000 in
theorem ModpolyValues_any (h : Heap) (v w : Value) (f g : List Nat) (x m : Nat) (hf : Nums .u32 h v f) (hg : Nums .u32 h w g) (hdf : Dg f) (hdg : Dg g) (hc : x < 4294967296) (hm : m < 4294967296) :
    Spec E.P f_cylinderlaw10_ModpolyValues #[v, w, .agg #[vnum .u32 x, vnum .u32 m]] h (fun v' h' => Ext h h' ∧ v' = .bool true) := by
  have k2 := mx_pos m
  have k1 := mx_lt hm
  refine Spec.intro hE (args := [_, _, _]) F_cylinderlaw10_ModpolyValues rfl rfl (Nat.le_of_ble_eq_true rfl) ?_
  refine DNew.intro ?_
  intro tb h1 htb hx1 hs1 hg1
  have hw1 : Whole h1 tb t_2_uint32 [vnum .u32 x, vnum .u32 m] := hg1
  refine (fit_any h1).mono ?_
  rintro _ h2 ⟨hx2, rfl⟩
  have hf0 := hf
  have hg0 := hg
  obtain ⟨a, cap, rfl, -⟩ := hf
  obtain ⟨b, cap2, rfl, -⟩ := hg
  refine ⟨⟨rfl, by decide, rfl, rfl, rfl, rfl, trivial⟩, ?_⟩
  refine DNew.intro ?_
  intro lb h3 hlb hx3 hs3 hg3
  refine (few_any h3 lb t_sl_uint32 [.slice a f.length cap, .slice b g.length cap2] [f.length, g.length] hg3 rfl (fun i h1 h2 => ?_) (by simp)).mono ?_
  · match i, h1 with
    | 0, _ => exact ⟨a, cap, rfl⟩
    | 1, _ => exact ⟨b, cap2, rfl⟩
  rintro _ h3 ⟨rfl, r, rfl, hr⟩
  have x03 := hx1.trans (hx2.trans hx3)
  cases r
  · exact ⟨x03, rfl⟩
  have hlf : f.length ≤ 12 := hr rfl _ (by simp)
  have hlg : g.length ≤ 12 := hr rfl _ (by simp)
  have hw3 := hw1.ext (hx2.trans hx3)
  refine DDraw.intro hE (.take 0 (.take 2 (.take 1 (.take 4 (.take 3 (.take 5 .done)))))) none (· = h3) (by kernel_rfl) rfl ?_
  refine DIdx.intro 0 rfl rfl (by decide) ?_
  refine DIdx.intro 1 rfl rfl (by decide) ?_
  refine QLoad.scalar (fun _ e => by rw [e]; exact hw3.get 0 rfl) ?_
  refine QLoad.scalar (fun _ e => by rw [e]; exact hw3.get 1 rfl) ?_
  refine (lawModulus_any h3 m hm).mono ?_
  rintro _ h3 ⟨rfl, rfl⟩
  have hf3 := hf0.ext x03
  have hg3 := hg0.ext x03
  refine (coefs_any h3 _ f m hf3 hdf hm (by omega)).mono ?_
  rintro v4 h4 ⟨hx4, hA⟩
  refine (coefs_any h4 _ g m (hg3.ext hx4) hdg hm (by omega)).mono ?_
  rintro v5 h5 ⟨hx5, hB⟩
  have hA := hA.ext hx5
  have hf5 := hf3.ext (hx4.trans hx5)
  have hg5 := hg3.ext (hx4.trans hx5)
  have x05 := x03.trans (hx4.trans hx5)
  have cA : Can (mx m) (cnf (mx m) f.length (co f)) := cnf_can k2
  have cB : Can (mx m) (cnf (mx m) g.length (co g)) := cnf_can k2
  have lA := cnf_len (mx m) f.length (co f)
  have lB := cnf_len (mx m) g.length (co g)
  have hev := evalS_red (M := mx m) f x
  have hder := law_deriv (M := mx m) f
  refine (modDegree_any h5 _ f m hf5 hdf hm (by omega)).mono ?_
  rintro _ h5 ⟨rfl, rfl⟩
  have hcmp := fun h => modCompare_any h (.slice a f.length cap) (.slice b g.length cap2) f g m
  have hsame := fun h => modSame_any h (.slice a f.length cap) (.slice b g.length cap2) f g m
  generalize hAe : cnf (mx m) f.length (co f) = A at *
  generalize hBe : cnf (mx m) g.length (co g) = B at *
  have hA0 := hA
  have hB0 := hB
  obtain ⟨aa, acap, rfl, -⟩ := hA
  obtain ⟨ba, bcap, rfl, -⟩ := hB
  refine DWrap.is ((A.length : Int) - 1) rfl (by omega) ?_
  refine bsp.no (b := ((A.length : Int) - 1 != (A.length : Int) - 1)) (by simp) ?_
  refine (modEval_any h5 _ f x m hf5 hdf hc hm (by omega)).mono ?_
  rintro _ h5 ⟨rfl, rfl⟩
  rw [horner_full]
  have he1 := Nat.mod_lt (evalS f x f.length) k2
  refine DWrap.eq (m := ((evalS f x f.length % mx m : Nat) : Int)) (by rw [IntKind.wrap_u64]; omega) ?_
  refine DWrap.eq (m := (x : Nat)) (by rw [IntKind.wrap_u64]; omega) ?_
  refine (refValue_any h5 _ A x (mx m) hA0 (by omega) k2 k1 (by omega)).mono ?_
  rintro _ h5 ⟨rfl, rfl⟩
  rw [hev]
  refine bsp.no (b := (((evalS f x f.length % mx m : Nat) : Int) != ((evalS f x f.length % mx m : Nat) : Int))) (by simp) ?_
  refine (modMul2_any h5 _ _ f g m hf5 hg5 hdf hdg hm (by omega) (by omega)).mono ?_
  rintro v6 h6 ⟨hx6, hv6⟩
  have lM : (mulM (mx m) f g).length ≤ f.length + g.length := cnf_len _ _ _
  refine (modEval_any h6 v6 _ x m hv6 ((cnf_can k2).dg (by omega)) hc hm (by omega)).mono ?_
  rintro _ h6 ⟨rfl, rfl⟩
  refine (modEval_any h6 _ f x m (hf5.ext hx6) hdf hc hm (by omega)).mono ?_
  rintro _ h6 ⟨rfl, rfl⟩
  refine (modEval_any h6 _ g x m (hg5.ext hx6) hdg hc hm (by omega)).mono ?_
  rintro _ h6 ⟨rfl, rfl⟩
  rw [horner_full, horner_full, horner_full]
  have he2 := Nat.mod_lt (evalS g x g.length) k2
  refine (modMul_any h6 _ _ m (by omega) (by omega) hm).mono ?_
  rintro _ h6 ⟨rfl, rfl⟩
  rw [← evalS_mul]
  refine bsp.no (b := (((evalS (mulM (mx m) f g) x (mulM (mx m) f g).length % mx m : Nat) : Int) != ((evalS (mulM (mx m) f g) x (mulM (mx m) f g).length % mx m : Nat) : Int))) (by simp) ?_
  have hf6 := hf5.ext hx6
  have hg6 := hg5.ext hx6
  have hA6 := hA0.ext hx6
  have hB6 := hB0.ext hx6
  have x06 := x05.trans hx6
  refine DMake.intro A.length A.length rfl rfl (Nat.le_refl _) (by omega) (by omega) ?_
  intro db h7 hdb hx7 hs7 hg7
  refine DLoop.intro hE (ι := Nat × List Nat) (fun s => [(13, .int .i64 s.1), (10, .slice aa A.length acap), (11, .slice ba B.length bcap), (12, .slice (some ⟨db, 0, none⟩) A.length A.length), (9, vnum .u64 (mx m)), (8, vnum .u32 m), (0, .slice a f.length cap), (1, .slice b g.length cap2)])
    (fun s h' => Ext h6 h' ∧ 1 ≤ s.1 ∧ s.1 ≤ A.length + 1 ∧ NumB h' db .u64 t_uint64 s.2 ∧ s.2.length = A.length ∧ ∀ j, co s.2 j = if j + 1 < s.1 then (j + 1) * co A (j + 1) % mx m else 0) (fun s => A.length + 1 - s.1) (1, List.replicate A.length 0) rfl ⟨rfl, rfl, rfl, rfl, rfl, rfl, rfl, rfl, trivial⟩
    ⟨hx7, Nat.le_refl _, by dsimp only; omega, NumB.zeros hg7, by simp, fun j => by rw [co_zeros, if_neg (by omega)]⟩ ?_
  rintro ⟨i, Z⟩ h8 ⟨hx8, hi1, hi2, hZ, hZl, hZc⟩
  dsimp only at hi1 hi2 hZ hZl hZc ⊢
  refine bsp.dec (p := (i : Int) < A.length) (fun hlt => ?_) (fun hge => ?_)
  · have hiA : i < A.length := by omega
    obtain ⟨ab, ao, rfl, hcell⟩ := hA6.at hiA
    have hAi := cA.co_lt k2 i
    have hmul : i * co A i ≤ 12 * 4294967295 := Nat.mul_le_mul (by omega) (by omega)
    refine DWrap.is ((i - 1 : Nat) : Int) (by omega) (by omega) ?_
    refine DWrap.eq (m := (i : Nat)) (by rw [IntKind.wrap_u64]; omega) ?_
    refine DIdx.intro i rfl rfl hiA ?_
    refine DLoad.scalar (hx8.cell hcell) ?_
    refine DWrap.eq (m := ((i * co A i : Nat) : Int)) (by rw [IntKind.wrap_u64, ← Int.natCast_mul]; omega) ?_
    refine ⟨by omega, ?_⟩
    rw [tmod_nat]
    refine DIdx.intro (i - 1) rfl rfl (by omega) ?_
    refine DStore.num (i - 1) (Nat.zero_add _) hZ (by omega) ?_
    intro h9 hu9 hZ9
    refine DWrap.is ((i + 1 : Nat) : Int) (by omega) (by omega) ?_
    have s6 := hx7.size
    refine ⟨(i + 1, _), ⟨rfl, rfl, rfl, rfl, rfl, rfl, rfl, rfl, trivial⟩, ⟨((hx8.old (Nat.le_refl _)).upd hu9 (by omega)).toExt, by dsimp only; omega, by dsimp only; omega, hZ9, by simpa using hZl, fun j => ?_⟩, by dsimp only; omega⟩
    dsimp only
    rw [co_set (by omega), hZc]
    by_cases e : j = i - 1
    · rw [if_pos e, if_pos (by omega), show j + 1 = i by omega]
    · rw [if_neg e]
      by_cases e2 : j + 1 < i
      · rw [if_pos e2, if_pos (by omega)]
      · rw [if_neg e2, if_neg (by omega)]
  · have hdone : trimL Z = cnf (mx m) (f.length - 1) (fun i => co f (i + 1) * (i + 1)) := by
      rw [hder]
      refine cnf_eq (trimL_trimmed _) fun j => ?_
      rw [co_trimL, hZc]
      by_cases e : j + 1 < i
      · rw [if_pos e, if_pos (by omega)]
      · rw [if_neg e]
        split
        · rw [co_ge (f := A) (by omega), Nat.mul_zero, Nat.zero_mod]
        · rfl
    have x08 := x06.trans hx8
    have fin : ∀ h', Ext h8 h' → Spec E.P f_modpoly_Derivative #[.slice a f.length cap, vnum .u32 m] h' (fun v' h'' => Ext h' h'' ∧ Nums .u32 h'' v' (cnf (mx m) (f.length - 1) (fun i => co f (i + 1) * (i + 1)))) := fun h' e => modDeriv_any h' _ f m (hf6.ext (hx8.trans e)) hdf hm (by omega)
    have hAg := hA6.ext hx8
    have hBg := hB6.ext hx8
    have hn8 : Nums .u64 h8 (.slice (some ⟨db, 0, none⟩) A.length A.length) Z := by rw [← hZl]; exact hZ.nums
    refine bsp.intro (b := ((A.length : Int) != (B.length : Int))) (fun hne => ?_) (fun heq => ?_)
    · have hne : ¬ (A.length : Int) = B.length := by simpa using hne
      refine bsp.dec (p := (A.length : Int) < B.length) (fun hlt => ?_) (fun hge => ?_)
      · have hW : cmpC A B = -1 := by unfold cmpC; rw [if_pos (by omega)]
        refine (fin _ (Ext.rfl)).mono ?_
        rintro v9 h9 ⟨hx9, hv9⟩
        refine (refTrim_any h9 _ Z (hn8.ext hx9) (by omega)).mono ?_
        rintro v10 h9 ⟨rfl, hv10⟩
        rw [hdone] at hv10
        refine (is_any h9 v9 v10 _ _ hv9 hv10 ((cnf_can k2).dg (by omega)) (by have := cnf_len (mx m) (f.length - 1) (fun i => co f (i + 1) * (i + 1)); omega) (by have := cnf_len (mx m) (f.length - 1) (fun i => co f (i + 1) * (i + 1)); omega)).mono ?_
        rintro _ h9 ⟨rfl, rfl⟩
        rw [decide_eq_true rfl]
        have x09 := hx8.trans hx9
        refine (hcmp h9 (hf6.ext x09) (hg6.ext x09) hdf hdg hm (by omega) (by omega)).mono ?_
        rintro _ h10 ⟨hx10, rfl⟩
        rw [hW]
        refine (hsame h10 (hf6.ext (x09.trans hx10)) (hg6.ext (x09.trans hx10)) hdf hdg hm (by omega) (by omega)).mono ?_
        rintro _ h11 ⟨hx11, rfl⟩
        refine ⟨(x06.trans x09).trans (hx10.trans hx11), ?_⟩
        show Value.bool _ = Value.bool true
        have hz := cmpC_zero (f := A) (g := B)
        rw [hW] at hz
        congr 1
        have hne2 : ¬ A = B := fun e => absurd (hz.2 e) (by decide)
        rw [decide_eq_false hne2]; rfl
      · have hW : cmpC A B = 1 := by unfold cmpC; rw [if_neg (by omega), if_pos (by omega)]
        refine (fin _ (Ext.rfl)).mono ?_
        rintro v9 h9 ⟨hx9, hv9⟩
        refine (refTrim_any h9 _ Z (hn8.ext hx9) (by omega)).mono ?_
        rintro v10 h9 ⟨rfl, hv10⟩
        rw [hdone] at hv10
        refine (is_any h9 v9 v10 _ _ hv9 hv10 ((cnf_can k2).dg (by omega)) (by have := cnf_len (mx m) (f.length - 1) (fun i => co f (i + 1) * (i + 1)); omega) (by have := cnf_len (mx m) (f.length - 1) (fun i => co f (i + 1) * (i + 1)); omega)).mono ?_
        rintro _ h9 ⟨rfl, rfl⟩
        rw [decide_eq_true rfl]
        have x09 := hx8.trans hx9
        refine (hcmp h9 (hf6.ext x09) (hg6.ext x09) hdf hdg hm (by omega) (by omega)).mono ?_
        rintro _ h10 ⟨hx10, rfl⟩
        rw [hW]
        refine (hsame h10 (hf6.ext (x09.trans hx10)) (hg6.ext (x09.trans hx10)) hdf hdg hm (by omega) (by omega)).mono ?_
        rintro _ h11 ⟨hx11, rfl⟩
        refine ⟨(x06.trans x09).trans (hx10.trans hx11), ?_⟩
        show Value.bool _ = Value.bool true
        have hz := cmpC_zero (f := A) (g := B)
        rw [hW] at hz
        congr 1
        have hne2 : ¬ A = B := fun e => absurd (hz.2 e) (by decide)
        rw [decide_eq_false hne2]; rfl
    have heq : (A.length : Int) = B.length := by simpa using heq
    have hcm : cmpC A B = cmpAt A B A.length := by unfold cmpC; rw [if_neg (by omega), if_neg (by omega)]
    refine DWrap.is ((A.length : Int) - 1) rfl (by omega) ?_
    refine DLoop.intro hE (ι := Nat × Int) (fun n => [(15, .int .i64 ((n.1 : Int) - 1)), (14, .int .i64 n.2), (10, .slice aa A.length acap), (11, .slice ba B.length bcap), (12, .slice (some ⟨db, 0, none⟩) A.length A.length), (8, vnum .u32 m), (0, .slice a f.length cap), (1, .slice b g.length cap2)])
      (fun n h' => h' = h8 ∧ n.1 ≤ A.length ∧ -1 ≤ n.2 ∧ n.2 ≤ 1 ∧ (n.2 = 0 → cmpC A B = cmpAt A B n.1) ∧ (n.2 ≠ 0 → cmpC A B = n.2)) (fun n => n.1) (A.length, 0) rfl ⟨rfl, rfl, rfl, rfl, rfl, rfl, rfl, rfl, trivial⟩ ⟨rfl, Nat.le_refl _, by dsimp only; omega, by dsimp only; omega, fun _ => hcm, fun h => absurd rfl h⟩ ?_
    rintro ⟨n, k⟩ h' ⟨rfl, hn, hk1, hk2, hk3, hk4⟩
    dsimp only at hn hk1 hk2 hk3 hk4 ⊢
    refine bsp.dec (p := ((n : Int) - 1) ≥ 0) (fun hge => ?_) (fun hlt => ?_)
    · refine bsp.intro (b := (k == 0)) (fun hz => ?_) (fun hz => ?_)
      · obtain ⟨j, rfl⟩ : ∃ j, n = j + 1 := ⟨n - 1, by omega⟩
        have hz : k = 0 := by simpa using hz
        subst hz
        have hk3 := hk3 rfl
        obtain ⟨fb, fo, rfl, hc1⟩ := hA6.at (i := j) (by omega)
        obtain ⟨gb, go, rfl, hc2⟩ := hB6.at (i := j) (by omega)
        refine DDraw.intro hE (.take 0 (.take 1 (.take 2 (.take 4 (.take 5 (.take 6 (.take 3 (.take 7 (.take 8 .done))))))))) none (· = h') (by kernel_rfl) rfl ?_
        refine DIdx.intro j rfl (by omega) (by omega) ?_
        refine DIdx.intro j rfl (by omega) (by omega) ?_
        refine QLoad.scalar (fun _ e => by rw [e]; exact hx8.cell hc1) ?_
        refine QLoad.scalar (fun _ e => by rw [e]; exact hx8.cell hc2) ?_
        refine bsp.dec (p := (co A j : Int) > co B j) (fun hl => ?_) (fun hl => ?_)
        · refine DWrap.is ((j : Int) - 1) (by omega) (by omega) ?_
          refine ⟨(j, 1), ⟨rfl, rfl, rfl, rfl, rfl, rfl, rfl, rfl, trivial⟩, ⟨rfl, by dsimp only; omega, by dsimp only; omega, by dsimp only; omega, fun h => absurd h (by dsimp only; omega), fun _ => ?_⟩, by dsimp only; omega⟩
          rw [hk3]; unfold cmpAt; rw [if_neg (by omega), if_pos (by omega)]
        refine DDraw.intro hE (.take 0 (.take 1 (.take 2 (.take 4 (.take 5 (.take 6 (.take 3 (.take 7 (.take 8 .done))))))))) none (· = h') (by kernel_rfl) rfl ?_
        refine DIdx.intro j rfl (by omega) (by omega) ?_
        refine DIdx.intro j rfl (by omega) (by omega) ?_
        refine QLoad.scalar (fun _ e => by rw [e]; exact hx8.cell hc1) ?_
        refine QLoad.scalar (fun _ e => by rw [e]; exact hx8.cell hc2) ?_
        refine bsp.dec (p := (co A j : Int) < co B j) (fun hl2 => ?_) (fun hl2 => ?_)
        · refine DWrap.is ((j : Int) - 1) (by omega) (by omega) ?_
          refine ⟨(j, -1), ⟨rfl, rfl, rfl, rfl, rfl, rfl, rfl, rfl, trivial⟩, ⟨rfl, by dsimp only; omega, by dsimp only; omega, by dsimp only; omega, fun h => absurd h (by dsimp only; omega), fun _ => ?_⟩, by dsimp only; omega⟩
          rw [hk3]; unfold cmpAt; rw [if_pos (by omega)]
        refine DWrap.is ((j : Int) - 1) (by omega) (by omega) ?_
        refine ⟨(j, 0), ⟨rfl, rfl, rfl, rfl, rfl, rfl, rfl, rfl, trivial⟩, ⟨rfl, by dsimp only; omega, by dsimp only; omega, by dsimp only; omega, fun _ => ?_, fun h => absurd rfl h⟩, by dsimp only; omega⟩
        rw [hk3]
        show (if co A j < co B j then (-1 : Int) else if co B j < co A j then 1 else cmpAt A B j) = _
        rw [if_neg (by omega), if_neg (by omega)]
      · have hk : ¬ k = 0 := by simpa using hz
        have hW := hk4 hk
        refine (fin _ (Ext.rfl)).mono ?_
        rintro v9 h9 ⟨hx9, hv9⟩
        refine (refTrim_any h9 _ Z (hn8.ext hx9) (by omega)).mono ?_
        rintro v10 h9 ⟨rfl, hv10⟩
        rw [hdone] at hv10
        refine (is_any h9 v9 v10 _ _ hv9 hv10 ((cnf_can k2).dg (by omega)) (by have := cnf_len (mx m) (f.length - 1) (fun i => co f (i + 1) * (i + 1)); omega) (by have := cnf_len (mx m) (f.length - 1) (fun i => co f (i + 1) * (i + 1)); omega)).mono ?_
        rintro _ h9 ⟨rfl, rfl⟩
        rw [decide_eq_true rfl]
        have x09 := hx8.trans hx9
        refine (hcmp h9 (hf6.ext x09) (hg6.ext x09) hdf hdg hm (by omega) (by omega)).mono ?_
        rintro _ h10 ⟨hx10, rfl⟩
        rw [hW]
        refine bsp.yes (b := (k == k)) (beq_self_eq_true k) ?_
        refine (hsame h10 (hf6.ext (x09.trans hx10)) (hg6.ext (x09.trans hx10)) hdf hdg hm (by omega) (by omega)).mono ?_
        rintro _ h11 ⟨hx11, rfl⟩
        refine ⟨(x06.trans x09).trans (hx10.trans hx11), ?_⟩
        show Value.bool _ = Value.bool true
        have hz := cmpC_zero (f := A) (g := B)
        rw [hW] at hz
        congr 1
        have hne2 : ¬ A = B := fun e => hk (hz.2 e)
        rw [decide_eq_false hne2, beq_eq_false_iff_ne.2 hk]; rfl
    · obtain rfl : n = 0 := by omega
      have hW : cmpC A B = k := by
        by_cases hk : k = 0
        · rw [hk3 hk, hk]; rfl
        · exact hk4 hk
      refine (fin _ (Ext.rfl)).mono ?_
      rintro v9 h9 ⟨hx9, hv9⟩
      refine (refTrim_any h9 _ Z (hn8.ext hx9) (by omega)).mono ?_
      rintro v10 h9 ⟨rfl, hv10⟩
      rw [hdone] at hv10
      refine (is_any h9 v9 v10 _ _ hv9 hv10 ((cnf_can k2).dg (by omega)) (by have := cnf_len (mx m) (f.length - 1) (fun i => co f (i + 1) * (i + 1)); omega) (by have := cnf_len (mx m) (f.length - 1) (fun i => co f (i + 1) * (i + 1)); omega)).mono ?_
      rintro _ h9 ⟨rfl, rfl⟩
      rw [decide_eq_true rfl]
      have x09 := hx8.trans hx9
      refine (hcmp h9 (hf6.ext x09) (hg6.ext x09) hdf hdg hm (by omega) (by omega)).mono ?_
      rintro _ h10 ⟨hx10, rfl⟩
      rw [hW]
      refine bsp.yes (b := (k == k)) (beq_self_eq_true k) ?_
      refine (hsame h10 (hf6.ext (x09.trans hx10)) (hg6.ext (x09.trans hx10)) hdf hdg hm (by omega) (by omega)).mono ?_
      rintro _ h11 ⟨hx11, rfl⟩
      refine ⟨(x06.trans x09).trans (hx10.trans hx11), ?_⟩
      show Value.bool _ = Value.bool true
      have hz := cmpC_zero (f := A) (g := B)
      rw [hW] at hz
      congr 1
      by_cases hk : k = 0
      · subst hk; rw [decide_eq_true (hz.1 rfl)]; rfl
      · rw [decide_eq_false fun e => hk (hz.2 e), beq_eq_false_iff_ne.2 hk]; rfl
end Go.Vc
