/- Contracts of the functions on natural numbers: products. -/
import Derived.Test.YtjjcncedfphnhaaNat3
namespace Go.Vc
open Go.Proofs

theorem mul_digit {x y r c : Nat} (hx : x < 4294967296) (hy : y < 4294967296) (hr : r < 4294967296) (hc : c < 4294967296) :
    let low1 := (x * y % 4294967296 + r + 0) % 4294967296
    let c1 := (x * y % 4294967296 + r + 0) / 4294967296
    let high1 := x * y / 4294967296 + c1
    let low2 := (low1 + c + 0) % 4294967296
    let c2 := (low1 + c + 0) / 4294967296
    high1 < 4294967296 ∧ high1 + c2 < 4294967296 ∧ low2 + 4294967296 * (high1 + c2) = x * y + r + c := by
  have h1 : x * y ≤ 4294967295 * 4294967295 := Nat.mul_le_mul (by omega) (by omega)
  generalize x * y = t at *
  intro low1 c1 high1 low2 c2
  have e1 : low1 = (t % 4294967296 + r + 0) % 4294967296 := rfl
  have e2 : c1 = (t % 4294967296 + r + 0) / 4294967296 := rfl
  have e3 : high1 = t / 4294967296 + c1 := rfl
  have e4 : low2 = (low1 + c + 0) % 4294967296 := rfl
  have e5 : c2 = (low1 + c + 0) / 4294967296 := rfl
  omega

theorem mul_step {Q P Pi s c c' v x y r S0 S0' Y t : Nat} (h1 : t + c * P = S0 + Pi * (x * Y)) (h2 : v + 4294967296 * c' = x * y + r + c) (hs : s = t + P * v) (h0 : S0' = S0 + P * r) (hP : P = Pi * Q) :
    s + c' * (P * 4294967296) = S0' + Pi * (x * (Y + Q * y)) := by
  subst hs h0
  have : P * (v + 4294967296 * c') = P * (x * y + r + c) := by rw [h2]
  simp only [Nat.mul_add] at this ⊢
  rw [Nat.mul_comm c P] at h1
  have e : c' * (P * 4294967296) = P * (4294967296 * c') := by rw [Nat.mul_comm, Nat.mul_assoc]
  have e2 : Pi * (x * (Q * y)) = P * (x * y) := by rw [hP]; rw [show x * (Q * y) = Q * (x * y) by rw [Nat.mul_left_comm]]; rw [Nat.mul_assoc]
  omega

theorem dval_take_zeros {Z : List Nat} {n : Nat} (h : ∀ j, n ≤ j → ∀ (hj : j < Z.length), Z[j] = 0) : dval Z = dval (Z.take n) := by
  conv => lhs; rw [← List.take_append_drop n Z]
  rw [dval_append]
  have : Z.drop n = List.replicate (Z.length - n) 0 := by
    apply List.ext_getElem
    · simp
    · intro i h1 h2
      simp only [List.length_drop] at h1
      rw [List.getElem_drop, List.getElem_replicate]
      exact h _ (by omega) (by omega)
  rw [this, dval_zeros]; simp

set_option maxHeartbeats 1600000 in
theorem schoolbook_any (h : Heap) (v1 v2 : Value) (A B : List Nat) (hd : Nums .u32 h v1 A) (he : Nums .u32 h v2 B) (gA : Dg A) (gB : Dg B) (hl1 : A.length < 100000000) (hl2 : B.length < 100000000) :
    Spec E.P f_natural_schoolbook #[v1, v2] h (fun v h' => Ext h h' ∧ ∃ Z, Nums .u32 h' v Z ∧ Dg Z ∧ Z.length = A.length + B.length ∧ dval Z = dval A * dval B) := by
  obtain ⟨a, cap, rfl, hcap, hA⟩ := hd
  obtain ⟨b, cap2, rfl, hcap2, hB⟩ := he
  refine Spec.intro hE (args := [_, _]) F_natural_schoolbook rfl rfl (Nat.le_of_ble_eq_true rfl) ?_
  refine DWrap.is ((A.length + B.length : Nat) : Int) (by omega) (by omega) ?_
  refine DMake.intro (A.length + B.length) (A.length + B.length) rfl rfl (Nat.le_refl _) (by omega) (by omega) ?_
  intro zb h2 hzb hx2 hs2 hg2
  have hz0 : NumB h2 zb .u32 t_uint32 (List.replicate (A.length + B.length) 0) := by
    unfold NumB; rw [hg2, show (vnum IntKind.u32) = (fun (d : Nat) => Value.int .u32 d) from rfl, ← map_replicate_zero]; rfl
  have ho0 : Old h.size h h2 := Old.rfl.ext hx2 (Nat.le_refl _)
  refine DLoop.intro hE (ι := Nat × List Nat) (fun q => [(23, .int .i64 q.1), (21, .slice a A.length cap), (22, .int .i64 A.length), (5, .slice (some ⟨zb, 0, none⟩) (A.length + B.length) (A.length + B.length)), (1, .slice b B.length cap2)])
    (fun q hh => Old h.size h hh ∧ q.1 ≤ A.length ∧ q.2.length = A.length + B.length ∧ Dg q.2 ∧ NumB hh zb .u32 t_uint32 q.2 ∧ dval q.2 = dval (A.take q.1) * dval B ∧ (∀ j, q.1 + B.length ≤ j → ∀ (hj : j < q.2.length), q.2[j] = 0)) (fun q => A.length - q.1) (0, List.replicate (A.length + B.length) 0) rfl
    ⟨rfl, rfl, rfl, rfl, rfl, trivial⟩ ⟨ho0, Nat.zero_le _, by simp, Dg.zeros _, hz0, by simp [dval, dval_zeros], by simp⟩ ?_
  rintro ⟨i, Z0⟩ hh ⟨ho, hi, hZl, hZg, hZ, hsum, hzero⟩
  dsimp only at hi hZl hZg hZ hsum hzero ⊢
  refine bsp.dec (fun hlt => ?_) (fun hlt => ?_)
  · have hiA : i < A.length := by omega
    -- the body, with its two ends
    refine DBlock.cut hE (ι := List Nat) (fun _ => [(23, .int .i64 i), (21, .slice a A.length cap), (22, .int .i64 A.length), (5, .slice (some ⟨zb, 0, none⟩) (A.length + B.length) (A.length + B.length)), (1, .slice b B.length cap2)])
      (fun Z hh => Old h.size h hh ∧ Z.length = A.length + B.length ∧ Dg Z ∧ NumB hh zb .u32 t_uint32 Z ∧ dval Z = dval (A.take (i + 1)) * dval B ∧ (∀ j, i + 1 + B.length ≤ j → ∀ (hj : j < Z.length), Z[j] = 0)) rfl ?_ ?_
    · obtain ⟨ba, oa, rfl, hca, -⟩ := hA (by intro e; subst e; simp at hiA)
      refine DIdx.intro i rfl rfl hiA ?_
      refine DLoad.scalar (ho.cell (hca i hiA) (cell_lt (hca i hiA))) ?_
      refine bsp.intro (fun hz => ?_) (fun hz => ?_)
      · refine ⟨Z0, ⟨rfl, rfl, rfl, rfl, rfl, trivial⟩, ho, hZl, hZg, hZ, ?_, fun j hj hjl => hzero j (by omega) hjl⟩
        have h0 : A[i] = 0 := by simp at hz; omega
        rw [dval_take_succ hiA, h0, hsum]; simp
      · refine DSlice.intro i (A.length + B.length) rfl rfl (by omega) (Nat.le_refl _) ?_
        rw [slV_at 1 zb 0 _ i _ (by omega)]
        simp only [Nat.zero_add, Nat.mul_one]
        refine DLoop.intro hE (ι := Nat × Nat × List Nat) (fun q => [(35, .int .i64 q.1), (9, .int .u32 q.2.1), (33, .slice b B.length cap2), (34, .int .i64 B.length), (7, .int .u32 A[i]), (8, .slice (some ⟨zb, i, none⟩) (A.length + B.length - i) (A.length + B.length - i)), (23, .int .i64 i), (21, .slice (some ⟨ba, oa, none⟩) A.length cap), (22, .int .i64 A.length), (5, .slice (some ⟨zb, 0, none⟩) (A.length + B.length) (A.length + B.length)), (1, .slice b B.length cap2)])
          (fun q hh => Old h.size h hh ∧ q.1 ≤ B.length ∧ q.2.1 < 4294967296 ∧ q.2.2.length = A.length + B.length ∧ Dg q.2.2 ∧ NumB hh zb .u32 t_uint32 q.2.2 ∧
            dval (q.2.2.take (i + q.1)) + q.2.1 * 4294967296 ^ (i + q.1) = dval (Z0.take (i + q.1)) + 4294967296 ^ i * (A[i] * dval (B.take q.1)) ∧ (∀ j, i + q.1 ≤ j → q.2.2[j]? = Z0[j]?)) (fun q => B.length - q.1) (0, 0, Z0) rfl ⟨rfl, rfl, rfl, rfl, rfl, rfl, rfl, rfl, rfl, rfl, rfl, trivial⟩
          ⟨ho, Nat.zero_le _, by dsimp only; omega, hZl, hZg, hZ, by simp [dval], fun _ _ => rfl⟩ ?_
        rintro ⟨j, c, Z⟩ hh ⟨ho, hj, hc, hZl, hZg, hZ, hin, hsame⟩
        dsimp only at hj hc hZl hZg hZ hin hsame ⊢
        refine bsp.dec (fun hlt2 => ?_) (fun hlt2 => ?_)
        · have hjB : j < B.length := by omega
          obtain ⟨bb, ob, rfl, hcb, -⟩ := hB (by intro e; subst e; simp at hjB)
          refine DIdx.intro j rfl rfl hjB ?_
          refine DLoad.scalar (ho.cell (hcb j hjB) (cell_lt (hcb j hjB))) ?_
          refine (Mul32_any hh A[i] B[j] (gA.get hiA) (gB.get hjB)).mono ?_
          rintro v h3 ⟨rfl, rfl⟩
          refine DIdx.intro j rfl rfl (by omega) ?_
          refine DLoad.scalar (hZ.cell (show i + j < Z.length by omega)) ?_
          have hr : Z[i + j] < 4294967296 := hZg.get _
          obtain ⟨m1, m2, m3⟩ := mul_digit (gA.get hiA) (gB.get hjB) hr hc
          refine (Add32_any _ (A[i] * B[j] % 4294967296) Z[i + j] 0 (Nat.mod_lt _ (by decide)) hr (by omega)).mono ?_
          rintro v h3 ⟨rfl, rfl⟩
          refine DWrap.eq (m := ((A[i] * B[j] / 4294967296 + (A[i] * B[j] % 4294967296 + Z[i + j] + 0) / 4294967296 : Nat) : Int)) (by rw [IntKind.wrap_u32']; omega) ?_
          refine (Add32_any _ ((A[i] * B[j] % 4294967296 + Z[i + j] + 0) % 4294967296) c 0 (Nat.mod_lt _ (by decide)) hc (by omega)).mono ?_
          rintro v h3 ⟨rfl, rfl⟩
          refine DIdx.intro j rfl rfl (by omega) ?_
          refine DStore.num (i + j) rfl hZ (by omega) ?_
          intro h4 hu4 hZ4
          refine DWrap.eq (m := ((A[i] * B[j] / 4294967296 + (A[i] * B[j] % 4294967296 + Z[i + j] + 0) / 4294967296 + ((A[i] * B[j] % 4294967296 + Z[i + j] + 0) % 4294967296 + c + 0) / 4294967296 : Nat) : Int)) (by rw [IntKind.wrap_u32']; omega) ?_
          refine DWrap.is ((j + 1 : Nat) : Int) (by omega) (by omega) ?_
          refine ⟨(j + 1, A[i] * B[j] / 4294967296 + (A[i] * B[j] % 4294967296 + Z[i + j] + 0) / 4294967296 + ((A[i] * B[j] % 4294967296 + Z[i + j] + 0) % 4294967296 + c + 0) / 4294967296, Z.set (i + j) (((A[i] * B[j] % 4294967296 + Z[i + j] + 0) % 4294967296 + c + 0) % 4294967296)), ⟨rfl, rfl, rfl, rfl, rfl, rfl, rfl, rfl, rfl, rfl, rfl, trivial⟩,
            ⟨ho.upd hu4 (by omega), by dsimp only; omega, m2, by simp [hZl], hZg.set (Nat.mod_lt _ (by decide)), hZ4, ?_, ?_⟩, by dsimp only; omega⟩
          · dsimp only
            have hZ0 : Z0[i + j]? = some Z[i + j] := by rw [← hsame (i + j) (by omega)]; simp
            obtain ⟨hl0, hZ0'⟩ := List.getElem?_eq_some_iff.1 hZ0
            rw [show i + (j + 1) = (i + j) + 1 by omega, dval_set_take (by omega), dval_take_succ hl0, dval_take_succ hjB, Nat.pow_succ, hZ0']
            exact mul_step hin m3 rfl rfl (Nat.pow_add _ _ _)
          · intro k hk
            dsimp only at hk ⊢
            rw [List.getElem?_set_ne (by omega)]
            exact hsame k (by omega)
        · obtain rfl : j = B.length := by omega
          refine DIdx.intro B.length rfl rfl (by omega) ?_
          refine DStore.num (i + B.length) rfl hZ (by omega) ?_
          intro h4 hu4 hZ4
          refine ⟨Z.set (i + B.length) c, ⟨rfl, rfl, rfl, rfl, rfl, trivial⟩, ho.upd hu4 (by omega), by simp [hZl], hZg.set hc, hZ4, ?_, ?_⟩
          · have hz' : ∀ k, i + B.length + 1 ≤ k → ∀ (hk : k < (Z.set (i + B.length) c).length), (Z.set (i + B.length) c)[k] = 0 := by
              intro k hk hkl
              have e1 : (Z.set (i + B.length) c)[k]? = Z0[k]? := by rw [List.getElem?_set_ne (by omega)]; exact hsame k (by omega)
              have hkl' : k < Z.length := by simpa using hkl
              have hk0 : k < Z0.length := by omega
              have := hzero k (by omega) hk0
              rw [List.getElem?_eq_getElem hkl, List.getElem?_eq_getElem hk0] at e1
              simp only [Option.some.injEq] at e1
              rw [e1, this]
            rw [dval_take_zeros hz', dval_set_take (by omega), Nat.mul_comm _ c, hin, List.take_length, dval_take_succ hiA, Nat.add_mul, ← hsum, dval_take_zeros hzero]
            rw [Nat.mul_assoc]
          · intro k hk hkl
            have e1 : (Z.set (i + B.length) c)[k]? = Z0[k]? := by rw [List.getElem?_set_ne (by omega)]; exact hsame k (by omega)
            have hkl' : k < Z.length := by simpa using hkl
            have hk0 : k < Z0.length := by omega
            have := hzero k (by omega) hk0
            rw [List.getElem?_eq_getElem hkl, List.getElem?_eq_getElem hk0] at e1
            simp only [Option.some.injEq] at e1
            rw [e1, this]
    · rintro Z h3 ⟨ho, hZl, hZg, hZ, hsum, hzero⟩
      refine DWrap.is ((i + 1 : Nat) : Int) (by omega) (by omega) ?_
      exact ⟨(i + 1, Z), ⟨rfl, rfl, rfl, rfl, rfl, trivial⟩, ⟨ho, by dsimp only; omega, hZl, hZg, hZ, hsum, hzero⟩, by dsimp only; omega⟩
  · obtain rfl : i = A.length := by omega
    refine ⟨ho.toExt, Z0, ⟨some ⟨zb, 0, none⟩, A.length + B.length, by rw [hZl], by omega, hZ.numsA⟩, hZg, hZl, ?_⟩
    rw [hsum, List.take_length]
end Go.Vc

namespace Go.Vc
open Go.Proofs

theorem product_small (h : Heap) (v1 v2 : Value) (A B : List Nat) (hd : Nums .u32 h v1 A) (he : Nums .u32 h v2 B) (gA : Dg A) (gB : Dg B) (hl1 : A.length < 10000000) (hl2 : B.length < 10000000) (hmin : A.length < 48 ∨ B.length < 48) :
    Spec E.P f_natural_product #[v1, v2] h (fun v h' => Ext h h' ∧ ∃ Z, Nums .u32 h' v Z ∧ Dg Z ∧ Z.length = A.length + B.length ∧ dval Z = dval A * dval B) := by
  obtain ⟨a, cap, rfl, hcap, hA⟩ := hd
  obtain ⟨b, cap2, rfl, hcap2, hB⟩ := he
  refine Spec.intro hE (args := [_, _]) F_natural_product rfl rfl (Nat.le_of_ble_eq_true rfl) ?_
  refine DJoin.split hE rfl ?_
  refine bsp.dec (fun hc => ?_) (fun hc => ?_)
  · refine bsp.dec (fun _ => ?_) (fun hc2 => ?_)
    · refine (schoolbook_any h _ _ A B ⟨a, cap, rfl, hcap, hA⟩ ⟨b, cap2, rfl, hcap2, hB⟩ gA gB (by omega) (by omega)).mono ?_
      rintro v h' ⟨hx, Z, hZ, hg, hl, hv⟩
      exact ⟨hx, Z, hZ, hg, hl, hv⟩
    · exfalso; omega
  · refine bsp.dec (fun _ => ?_) (fun hc2 => ?_)
    · refine (schoolbook_any h _ _ B A ⟨b, cap2, rfl, hcap2, hB⟩ ⟨a, cap, rfl, hcap, hA⟩ gB gA (by omega) (by omega)).mono ?_
      rintro v h' ⟨hx, Z, hZ, hg, hl, hv⟩
      exact ⟨hx, Z, hZ, hg, by omega, by rw [hv, Nat.mul_comm]⟩
    · exfalso; omega

/-- natural.Mul where one of the numbers has fewer than 48 digits -/
theorem Mul_min (h : Heap) (v1 v2 : Value) (ds es : List Nat) (hd : Nums .u32 h v1 ds) (he : Nums .u32 h v2 es) (hdg : Dg ds) (heg : Dg es) (hl1 : ds.length < 10000000) (hl2 : es.length < 10000000) (hmin : ds.length < 48 ∨ es.length < 48) :
    Spec E.P f_natural_Mul #[v1, v2] h (fun v h' => Ext h h' ∧ NatAt h' v (dval ds * dval es)) := by
  refine Spec.intro hE (args := [v1, v2]) F_natural_Mul rfl rfl (Nat.le_of_ble_eq_true rfl) ?_
  refine (trim_nat h v1 ds hd hdg (by omega)).mono ?_
  rintro v1' h' ⟨rfl, hA, -⟩
  refine (trim_nat h' v2 es he heg (by omega)).mono ?_
  rintro v2' h' ⟨rfl, hB, -⟩
  have la : (digs (dval ds)).length ≤ ds.length := by rw [← tlen_eq hdg]; have := tlen_le ds ds.length; omega
  have lb : (digs (dval es)).length ≤ es.length := by rw [← tlen_eq heg]; have := tlen_le es es.length; omega
  refine (product_small h' v1' v2' _ _ hA hB (digs_dg _) (digs_dg _) (by omega) (by omega) (by omega)).mono ?_
  rintro v h2 ⟨hx, Z, hZ, hg, hl, hv⟩
  refine (trim_nat h2 v Z hZ hg (by omega)).mono ?_
  rintro v3 h3 ⟨rfl, hn, -⟩
  refine ⟨hx, ?_⟩
  rw [dval_digs, dval_digs] at hv
  rw [← hv]; exact hn

theorem natural_Of_any (h : Heap) (n : Nat) (hn : n < 18446744073709551616) : Spec E.P f_natural_Of #[.int .u64 n] h (fun v h' => Ext h h' ∧ NatAt h' v n) := by
  refine Spec.intro hE (args := [_]) F_natural_Of rfl rfl (Nat.le_of_ble_eq_true rfl) ?_
  refine DWrap.eq (m := (n % 4294967296 : Nat)) (by rw [IntKind.wrap_u32']; omega) ?_
  refine ⟨by omega, ?_⟩
  refine DWrap.eq (m := (n / 4294967296 : Nat)) (by rw [shr32 _ (by omega), IntKind.wrap_u32']; omega) ?_
  refine ⟨⟨rfl, by decide, rfl, rfl, rfl, rfl, trivial⟩, ?_⟩
  refine DNew.intro ?_
  intro b h1 hb hx hs hg
  have hN : NumB h1 b .u32 t_uint32 [n % 4294967296, n / 4294967296] := hg
  refine (natural_Normal_any h1 _ _ ⟨some ⟨b, 0, none⟩, 2, rfl, Nat.le_refl _, hN.numsA⟩ ?_ (by simp)).mono ?_
  · intro d hd; simp at hd; omega
  · rintro v h2 ⟨hx2, hn2⟩
    refine ⟨hx.trans hx2, ?_⟩
    have : dval [n % 4294967296, n / 4294967296] = n := by simp only [dval]; omega
    rw [this] at hn2
    exact hn2
end Go.Vc
