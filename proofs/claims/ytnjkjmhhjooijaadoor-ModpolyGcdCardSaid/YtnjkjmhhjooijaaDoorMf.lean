/- modpoly: Compare, Same; the document's Sum and Value. -/
import Derived.Test.YtnjkjmhhjooijaaDoorMe
namespace Go.Vc
open Go.Proofs

/-- from the coefficient n - 1 down -/
def cmpAt (f g : List Nat) : Nat → Int
  | 0 => 0
  | n + 1 => if co f n < co g n then -1 else if co g n < co f n then 1 else cmpAt f g n
def cmpC (f g : List Nat) : Int := if f.length < g.length then -1 else if g.length < f.length then 1 else cmpAt f g f.length
theorem cmpAt_zero {f g : List Nat} : ∀ n, cmpAt f g n = 0 ↔ ∀ i, i < n → co f i = co g i
  | 0 => ⟨fun _ i hi => absurd hi (Nat.not_lt_zero _), fun _ => rfl⟩
  | n + 1 => by
    have ih := cmpAt_zero (f := f) (g := g) n
    unfold cmpAt
    constructor
    · intro h i hi
      split at h
      · omega
      · split at h
        · omega
        · by_cases e : i = n
          · subst e; omega
          · exact ih.1 h i (by omega)
    · intro h
      have := h n (by omega)
      rw [if_neg (by omega), if_neg (by omega)]
      exact ih.2 fun i hi => h i (by omega)
theorem cmpC_zero {f g : List Nat} : cmpC f g = 0 ↔ f = g := by
  unfold cmpC
  constructor
  · intro h
    split at h
    · omega
    · split at h
      · omega
      · have hl : f.length = g.length := by omega
        refine co_ext hl fun i => ?_
        by_cases hi : i < f.length
        · exact (cmpAt_zero _).1 h i hi
        · rw [co_ge (by omega), co_ge (by omega)]
  · rintro rfl
    rw [if_neg (by omega), if_neg (by omega)]
    exact (cmpAt_zero _).2 fun _ _ => rfl

theorem modCompare_any (h : Heap) (v w : Value) (f g : List Nat) (m : Nat) (hf : Nums .u32 h v f) (hg : Nums .u32 h w g) (hdf : Dg f) (hdg : Dg g) (hm : m < 4294967296) (hlf : f.length < 10000000) (hlg : g.length < 10000000) :
    Spec E.P f_modpoly_Compare #[v, w, vnum .u32 m] h (fun v' h' => Ext h h' ∧ v' = .int .i64 (cmpC (cnf (mx m) f.length (co f)) (cnf (mx m) g.length (co g)))) := by
  refine Spec.intro hE (args := [_, _, _]) F_modpoly_Compare rfl rfl (Nat.le_of_ble_eq_true rfl) ?_
  refine (modNormal_any h v f m hf hdf hm (by omega)).mono ?_
  rintro w1 h1 ⟨hx1, hw1⟩
  refine (modNormal_any h1 w g m (hg.ext hx1) hdg hm (by omega)).mono ?_
  rintro w2 h2 ⟨hx2, hw2⟩
  have hw1 := hw1.ext hx2
  have hx2 := hx1.trans hx2
  have lF := cnf_len (mx m) f.length (co f)
  have lG := cnf_len (mx m) g.length (co g)
  generalize cnf (mx m) f.length (co f) = F at *
  generalize cnf (mx m) g.length (co g) = G at *
  have hw10 := hw1
  have hw20 := hw2
  obtain ⟨a, cap, rfl, hcap, -⟩ := hw1
  obtain ⟨b, cap2, rfl, hcap2, -⟩ := hw2
  refine bsp.dec (p := (F.length : Int) < G.length) (fun hc => ?_) (fun hc => ?_)
  · refine ⟨hx2, ?_⟩
    show Value.int .i64 (-1) = _
    unfold cmpC; rw [if_pos (by omega)]
  refine bsp.dec (p := (F.length : Int) > G.length) (fun hc2 => ?_) (fun hc2 => ?_)
  · refine ⟨hx2, ?_⟩
    show Value.int .i64 1 = _
    unfold cmpC; rw [if_neg (by omega), if_pos (by omega)]
  have hcm : cmpC F G = cmpAt F G F.length := by unfold cmpC; rw [if_neg (by omega), if_neg (by omega)]
  refine DWrap.is ((F.length : Int) - 1) rfl (by omega) ?_
  refine DLoop.intro hE (ι := Nat) (fun n => [(7, .int .i64 ((n : Int) - 1)), (0, .slice a F.length cap), (1, .slice b G.length cap2)]) (fun n h' => h' = h2 ∧ n ≤ F.length ∧ cmpC F G = cmpAt F G n) (fun n => n) F.length rfl ⟨rfl, rfl, rfl, trivial⟩ ⟨rfl, Nat.le_refl _, hcm⟩ ?_
  rintro n h' ⟨rfl, hn, he⟩
  refine bsp.dec (p := ((n : Int) - 1) ≥ 0) (fun hge => ?_) (fun hlt => ?_)
  · obtain ⟨k, rfl⟩ : ∃ k, n = k + 1 := ⟨n - 1, by omega⟩
    obtain ⟨fb, fo, rfl, hc1⟩ := hw10.at (i := k) (by omega)
    obtain ⟨gb, go, rfl, hc2⟩ := hw20.at (i := k) (by omega)
    refine DDraw.intro hE (.take 0 (.take 1 (.take 2 (.take 4 (.take 5 (.take 6 (.take 3 (.take 7 (.take 8 (.take 9 .done)))))))))) none (· = h') (by kernel_rfl) rfl ?_
    refine DIdx.intro k rfl (by omega) (by omega) ?_
    refine DIdx.intro k rfl (by omega) (by omega) ?_
    refine QLoad.scalar (fun _ e => by rw [e]; exact hc1) ?_
    refine QLoad.scalar (fun _ e => by rw [e]; exact hc2) ?_
    refine bsp.dec (p := (co F k : Int) < co G k) (fun hl => ?_) (fun hl => ?_)
    · refine ⟨hx2, ?_⟩
      show Value.int .i64 (-1) = _
      rw [he]; unfold cmpAt; rw [if_pos (by omega)]
    refine DDraw.intro hE (.take 0 (.take 1 (.take 2 (.take 4 (.take 5 (.take 6 (.take 3 (.take 7 (.take 8 (.take 9 .done)))))))))) none (· = h') (by kernel_rfl) rfl ?_
    refine DIdx.intro k rfl (by omega) (by omega) ?_
    refine DIdx.intro k rfl (by omega) (by omega) ?_
    refine QLoad.scalar (fun _ e => by rw [e]; exact hc1) ?_
    refine QLoad.scalar (fun _ e => by rw [e]; exact hc2) ?_
    refine bsp.dec (p := (co F k : Int) > co G k) (fun hl2 => ?_) (fun hl2 => ?_)
    · refine ⟨hx2, ?_⟩
      show Value.int .i64 1 = _
      rw [he]; unfold cmpAt; rw [if_neg (by omega), if_pos (by omega)]
    refine DWrap.is ((k : Int) - 1) (by omega) (by omega) ?_
    refine ⟨k, ⟨rfl, rfl, rfl, trivial⟩, ⟨rfl, by omega, ?_⟩, by omega⟩
    rw [he]
    show (if co F k < co G k then (-1 : Int) else if co G k < co F k then 1 else cmpAt F G k) = _
    rw [if_neg (by omega), if_neg (by omega)]
  · obtain rfl : n = 0 := by omega
    refine ⟨hx2, ?_⟩
    rw [he]; rfl

theorem modSame_any (h : Heap) (v w : Value) (f g : List Nat) (m : Nat) (hf : Nums .u32 h v f) (hg : Nums .u32 h w g) (hdf : Dg f) (hdg : Dg g) (hm : m < 4294967296) (hlf : f.length < 10000000) (hlg : g.length < 10000000) :
    Spec E.P f_modpoly_Same #[v, w, vnum .u32 m] h (fun v' h' => Ext h h' ∧ v' = .bool (decide (cnf (mx m) f.length (co f) = cnf (mx m) g.length (co g)))) := by
  refine Spec.intro hE (args := [_, _, _]) F_modpoly_Same rfl rfl (Nat.le_of_ble_eq_true rfl) ?_
  refine (modCompare_any h v w f g m hf hg hdf hdg hm hlf hlg).mono ?_
  rintro _ h1 ⟨hx1, rfl⟩
  refine ⟨hx1, ?_⟩
  show Value.bool _ = Value.bool _
  congr 1
  rw [Bool.eq_iff_iff]
  simp only [beq_iff_eq, decide_eq_true_eq]
  exact cmpC_zero

theorem refSum_any (h : Heap) (v w : Value) (F G : List Nat) (c k : Nat) (hf : Nums .u64 h v F) (hg : Nums .u64 h w G) (hk : 0 < k) (hk2 : k < 4294967296) (hF : ∀ i, co F i < 4294967296) (hG : ∀ i, co G i < 4294967296) (hlf : F.length < 10000000) (hlg : G.length < 10000000) :
    Spec E.P f_cylinderref10_Sum #[v, w, vnum .u64 c, vnum .u64 k] h (fun v' h' => Ext h h' ∧ Nums .u64 h' v' (cnf k (max F.length G.length) (fun i => co F i + c * co G i))) := by
  have hf0 := hf
  have hg0 := hg
  obtain ⟨a, cap, rfl, hcap, -⟩ := hf
  obtain ⟨b, cap2, rfl, hcap2, -⟩ := hg
  refine Spec.intro hE (args := [_, _, _, _]) F_cylinderref10_Sum rfl rfl (Nat.le_of_ble_eq_true rfl) ?_
  have e1 : (if ((G.length : Int)) > (F.length : Int) then (G.length : Int) else (F.length : Int)) = ((max F.length G.length : Nat) : Int) := by split <;> omega
  refine DMake.intro (max F.length G.length) (max F.length G.length) e1 e1 (Nat.le_refl _) (by omega) (by omega) ?_
  generalize hN : max F.length G.length = N at *
  intro zb h1 hzb hx1 hs1 hg1
  refine DLoop.intro hE (ι := Nat × List Nat) (fun s => [(10, .int .i64 s.1), (9, .slice (some ⟨zb, 0, none⟩) N N), (0, .slice a F.length cap), (1, .slice b G.length cap2), (2, vnum .u64 c), (3, vnum .u64 k)])
    (fun s h' => Ext h h' ∧ s.1 ≤ N ∧ NumB h' zb .u64 t_uint64 s.2 ∧ Laid k N (fun i => co F i + c * co G i) s.1 s.2) (fun s => N - s.1) (0, List.replicate N 0) rfl ⟨rfl, rfl, rfl, rfl, rfl, rfl, trivial⟩ ⟨hx1, Nat.zero_le _, NumB.zeros hg1, Laid.start⟩ ?_
  rintro ⟨i, Z⟩ h3 ⟨hx3, hi, hZ, hL⟩
  dsimp only at hi hZ hL ⊢
  refine bsp.dec (fun hlt => ?_) (fun hlt => ?_)
  · have hiN : i < N := by omega
    have hlen := hL.len
    have hiZ : i < Z.length := by omega
    have hz0 : co Z i = 0 := by rw [hL.co, if_neg (by omega)]
    have hset0 : ∀ v, Laid k N (fun i => co F i + c * co G i) i (Z.set i v) ∨ True := fun _ => .inr trivial
    refine DJoin.cut hE (ι := List Nat) (fun _ => [(10, .int .i64 i), (9, .slice (some ⟨zb, 0, none⟩) N N), (0, .slice a F.length cap), (1, .slice b G.length cap2), (2, vnum .u64 c), (3, vnum .u64 k)]) (fun Z' h' => Ext h h' ∧ NumB h' zb .u64 t_uint64 Z' ∧ Z' = Z.set i (co F i % k)) rfl ?_ ?_
    · refine bsp.dec (p := (i : Int) < F.length) (fun hc => ?_) (fun hc => ?_)
      · have hiF : i < F.length := by omega
        obtain ⟨fb, fo, rfl, hc1⟩ := hf0.at hiF
        refine DIdx.intro i rfl rfl hiF ?_
        refine DLoad.scalar (hx3.cell hc1) ?_
        refine ⟨by omega, ?_⟩
        rw [tmod_nat]
        refine DIdx.intro i rfl rfl hiN ?_
        refine DStore.num i (Nat.zero_add _) hZ hiZ ?_
        intro h4 hu4 hZ4
        exact ⟨_, ⟨rfl, rfl, rfl, rfl, rfl, rfl, trivial⟩, ((hx3.old (Nat.le_refl _)).upd hu4 (by omega)).toExt, hZ4, rfl⟩
      · refine ⟨Z, ⟨rfl, rfl, rfl, rfl, rfl, rfl, trivial⟩, hx3, hZ, ?_⟩
        rw [co_ge (f := F) (by omega), Nat.zero_mod]
        refine co_ext (by simp) fun j => ?_
        rw [co_set hiZ]
        split
        · rename_i e; rw [e]; exact hz0
        · rfl
    rintro Z' h4 ⟨hx4, hZ4, rfl⟩
    have hZ'i : i < (Z.set i (co F i % k)).length := by simpa using hiZ
    have hcz : co (Z.set i (co F i % k)) i = co F i % k := by rw [co_set hiZ, if_pos rfl]
    have hFk := Nat.mod_lt (co F i) hk
    refine bsp.dec (p := (i : Int) < G.length) (fun hc => ?_) (fun hc => ?_)
    · have hiG : i < G.length := by omega
      obtain ⟨gb, go, rfl, hc2⟩ := hg0.at hiG
      have hck := Nat.mod_lt c hk
      have hgk := Nat.mod_lt (co G i) hk
      have hm1 : (c % k) * (co G i % k) ≤ 4294967294 * 4294967294 := Nat.mul_le_mul (by omega) (by omega)
      have hzz : (Z.set i (co F i % k))[i] = co F i % k := by rw [← co_lt hZ'i]; exact hcz
      refine DDraw.intro hE (.take 0 (.take 1 (.take 2 (.take 3 (.take 4 (.take 6 (.take 7 (.take 8 (.take 9 (.take 10 (.take 11 (.take 13 (.take 17 (.take 5 (.take 12 (.take 14 (.take 15 (.take 16 (.take 18 (.take 19 (.one 20 .done))))))))))))))))))))) (some 20) (· = h4) (by kernel_rfl) rfl ?_
      refine DIdx.intro i rfl rfl hiN ?_
      refine ⟨by omega, ?_⟩
      rw [tmod_nat]
      refine DIdx.intro i rfl rfl hiG ?_
      refine QLoad.scalar (fun _ e => by rw [e]; exact hZ4.cell hZ'i) ?_
      refine QLoad.scalar (fun _ e => by rw [e]; exact hx4.cell hc2) ?_
      refine ⟨by omega, ?_⟩
      rw [tmod_nat]
      refine DWrap.eq (m := ((c % k) * (co G i % k) : Nat)) (by rw [IntKind.wrap_u64, ← Int.natCast_mul]; omega) ?_
      rw [hzz]
      refine DWrap.eq (m := (co F i % k + (c % k) * (co G i % k) : Nat)) (by rw [IntKind.wrap_u64]; omega) ?_
      refine ⟨by omega, ?_⟩
      rw [tmod_nat]
      refine DIdx.intro i rfl rfl hiN ?_
      refine DStore.num i (Nat.zero_add _) hZ4 hZ'i ?_
      intro h5 hu5 hZ5
      have e : (co F i % k + c % k * (co G i % k)) % k = (co F i + c * co G i) % k := by
        rw [Nat.mod_add_mod, Nat.add_mod, ← Nat.mul_mod, ← Nat.add_mod]
      rw [List.set_set, e] at hZ5
      refine DWrap.is ((i + 1 : Nat) : Int) (by omega) (by omega) ?_
      exact ⟨(i + 1, _), ⟨rfl, rfl, rfl, rfl, rfl, rfl, trivial⟩, ⟨((hx4.old (Nat.le_refl _)).upd hu5 (by omega)).toExt, by dsimp only; omega, hZ5, hL.next hiN rfl⟩, by dsimp only; omega⟩
    · have e : co F i % k = (co F i + c * co G i) % k := by rw [co_ge (f := G) (by omega), Nat.mul_zero, Nat.add_zero]
      rw [e] at hZ4
      refine DWrap.is ((i + 1 : Nat) : Int) (by omega) (by omega) ?_
      exact ⟨(i + 1, _), ⟨rfl, rfl, rfl, rfl, rfl, rfl, trivial⟩, ⟨hx4, by dsimp only; omega, hZ4, hL.next hiN rfl⟩, by dsimp only; omega⟩
  · obtain rfl : i = N := by have := hL.len; omega
    have hn := hZ.nums
    have hlZ := hL.len
    rw [hL.len] at hn
    refine (refTrim_any h3 _ Z hn (by omega)).mono ?_
    rintro v4 h4 ⟨rfl, hv4⟩
    rw [hL.done] at hv4
    exact ⟨hx3, hv4⟩

/-- the value, power by power -/
def evalS (f : List Nat) (a n : Nat) : Nat := sumN n fun i => co f i * a ^ i
theorem refValue_any (h : Heap) (v : Value) (F : List Nat) (a k : Nat) (hf : Nums .u64 h v F) (ha : a < 18446744073709551616) (hk : 0 < k) (hk2 : k < 4294967296) (hlf : F.length < 10000000) :
    Spec E.P f_cylinderref10_Value #[v, vnum .u64 a, vnum .u64 k] h (fun v' h' => h' = h ∧ v' = vnum .u64 (evalS F a F.length % k)) := by
  have hf0 := hf
  obtain ⟨fa, cap, rfl, hcap, -⟩ := hf
  refine Spec.intro hE (args := [_, _, _]) F_cylinderref10_Value rfl rfl (Nat.le_of_ble_eq_true rfl) ?_
  refine DDraw.intro hE (.take 0 (.take 1 (.take 2 (.take 3 .done)))) none (· = h) (by kernel_rfl) rfl ?_
  refine ⟨by omega, ?_⟩
  rw [show Int.tmod 1 (k : Int) = ((1 % k : Nat) : Int) from tmod_nat 1 k]
  refine DLoop.intro hE (ι := Nat) (fun i => [(9, .int .i64 i), (7, vnum .u64 (evalS F a i % k)), (8, vnum .u64 (a ^ i % k)), (0, .slice fa F.length cap), (1, vnum .u64 a), (2, vnum .u64 k)])
    (fun i h' => h' = h ∧ i ≤ F.length) (fun i => F.length - i) 0 rfl ⟨rfl, by simp [evalS, sumN]; rfl, by simp; rfl, rfl, rfl, rfl, trivial⟩ ⟨rfl, Nat.zero_le _⟩ ?_
  rintro i h' ⟨rfl, hi⟩
  refine bsp.dec (fun hlt => ?_) (fun hlt => ?_)
  · have hiF : i < F.length := by omega
    obtain ⟨b, off, rfl, hcell⟩ := hf0.at hiF
    refine DIdx.intro i rfl rfl hiF ?_
    refine DLoad.scalar hcell ?_
    refine ⟨by omega, ?_⟩
    rw [tmod_nat]
    have b1 := Nat.mod_lt (co F i) hk
    have b2 := Nat.mod_lt (a ^ i) hk
    have b3 := Nat.mod_lt a hk
    have b4 := Nat.mod_lt (evalS F a i) hk
    have m1 : (co F i % k) * (a ^ i % k) ≤ 4294967294 * 4294967294 := Nat.mul_le_mul (by omega) (by omega)
    have m2 : (a ^ i % k) * (a % k) ≤ 4294967294 * 4294967294 := Nat.mul_le_mul (by omega) (by omega)
    refine DWrap.eq (m := ((co F i % k) * (a ^ i % k) : Nat)) (by rw [IntKind.wrap_u64, ← Int.natCast_mul]; omega) ?_
    refine DWrap.eq (m := (evalS F a i % k + (co F i % k) * (a ^ i % k) : Nat)) (by rw [IntKind.wrap_u64]; omega) ?_
    refine ⟨by omega, ?_⟩
    rw [tmod_nat]
    refine ⟨by omega, ?_⟩
    rw [tmod_nat]
    refine DWrap.eq (m := ((a ^ i % k) * (a % k) : Nat)) (by rw [IntKind.wrap_u64, ← Int.natCast_mul]; omega) ?_
    refine ⟨by omega, ?_⟩
    rw [tmod_nat]
    refine DWrap.is ((i + 1 : Nat) : Int) (by omega) (by omega) ?_
    have e1 : (evalS F a i % k + (co F i % k) * (a ^ i % k)) % k = evalS F a (i + 1) % k := by
      show _ = (evalS F a i + co F i * a ^ i) % k
      rw [Nat.mod_add_mod, Nat.add_mod, ← Nat.mul_mod, ← Nat.add_mod]
    have e2 : (a ^ i % k) * (a % k) % k = a ^ (i + 1) % k := by rw [← Nat.mul_mod, Nat.pow_succ]
    rw [e1, e2]
    exact ⟨i + 1, ⟨rfl, rfl, rfl, rfl, rfl, rfl, trivial⟩, ⟨rfl, by omega⟩, by omega⟩
  · obtain rfl : i = F.length := by omega
    exact ⟨rfl, rfl⟩

theorem sumN_shift (n : Nat) (c : Nat → Nat) : sumN (n + 1) c = c 0 + sumN n fun i => c (i + 1) := by
  induction n with
  | zero => simp [sumN]
  | succ n ih =>
    rw [sumN, ih]
    simp only [sumN]; omega
theorem sumN_mul (n a : Nat) (c : Nat → Nat) : sumN n c * a = sumN n fun i => c i * a := by
  induction n with
  | zero => simp [sumN]
  | succ n ih => simp only [sumN, Nat.add_mul, ih]
theorem horner_eval (f : List Nat) (a : Nat) {M : Nat} : ∀ n, n ≤ f.length → horner f a M n = (sumN n fun i => co f (f.length - n + i) * a ^ i) % M
  | 0, _ => by simp [horner, sumN]
  | n + 1, hn => by
    unfold horner
    rw [horner_eval f a n (by omega), sumN_shift, Nat.pow_zero, Nat.mul_one, Nat.add_zero, Nat.mod_mul_mod, Nat.mod_add_mod, Nat.add_comm]
    congr 1
    rw [show f.length - (n + 1) = f.length - 1 - n by omega]
    congr 1
    rw [sumN_mul]
    refine sumN_congr fun i hi => ?_
    rw [show f.length - 1 - n + (i + 1) = f.length - n + i by omega, Nat.pow_succ, Nat.mul_assoc]
theorem horner_full (f : List Nat) (a : Nat) {M : Nat} : horner f a M f.length = evalS f a f.length % M := by
  rw [horner_eval f a _ (Nat.le_refl _)]
  congr 1
  refine sumN_congr fun i hi => ?_
  rw [Nat.sub_self, Nat.zero_add]
end Go.Vc
