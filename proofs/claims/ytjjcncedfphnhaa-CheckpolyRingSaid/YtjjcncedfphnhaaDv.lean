/- Division by one digit. -/
import Derived.Test.YtjjcncedfphnhaaInt
import Derived.Laws.BitsAllLaws
namespace Go.Vc
open Go.Proofs

theorem or_shift {hi lo : Nat} (hl : lo < 4294967296) : (hi * 4294967296) ||| lo = hi * 4294967296 + lo := by
  have h := Nat.shiftLeft_add_eq_or_of_lt (i := 32) (b := lo) (by omega) hi
  rw [Nat.shiftLeft_eq] at h
  have e : (2 : Nat) ^ 32 = 4294967296 := by decide
  rw [e] at h
  exact h.symm

set_option maxRecDepth 100000 in
theorem or64 {hi lo : Nat} (hz : hi * 4294967296 + lo < 18446744073709551616) (hl : lo < 4294967296) : bits .or .u64 ((hi * 4294967296 : Nat) : Int) (lo : Int) = ((hi * 4294967296 + lo : Nat) : Int) := by
  rw [← or_shift hl]
  have a1 : hi * 4294967296 < 18446744073709551616 := Nat.lt_of_le_of_lt (Nat.le_add_right _ _) hz
  have a2 : lo < 18446744073709551616 := Nat.lt_of_le_of_lt (Nat.le_add_left _ _) hz
  generalize hi * 4294967296 = x at *
  exact u64_or_nat x lo a1 a2

theorem Div32_any (h : Heap) (hi lo y : Nat) (hh : hi < y) (hl : lo < 4294967296) (hy : y < 4294967296) :
    Spec E.P f_bits_Div32 #[.int .u32 hi, .int .u32 lo, .int .u32 y] h (fun v h' => h' = h ∧ v = .tuple #[.int .u32 ((hi * 4294967296 + lo) / y : Nat), .int .u32 ((hi * 4294967296 + lo) % y : Nat)]) := by
  have hz : (hi * 4294967296 + lo) < 18446744073709551616 := by omega
  have hq : (hi * 4294967296 + lo) / y < 4294967296 := by
    rw [Nat.div_lt_iff_lt_mul (by omega)]
    have : (hi + 1) * 4294967296 ≤ y * 4294967296 := Nat.mul_le_mul_right _ (by omega)
    rw [Nat.mul_comm 4294967296 y]
    omega
  have hr : (hi * 4294967296 + lo) % y < y := Nat.mod_lt _ (by omega)
  refine Spec.intro hE (args := [_, _, _]) F_bits_Div32 rfl rfl (Nat.le_of_ble_eq_true rfl) ?_
  refine DJoin.split hE rfl ?_
  refine bsp.yes (by rw [bne_iff_ne]; omega) ?_
  refine bsp.no (by simp; omega) ?_
  refine DWrap.eq (m := (hi : Int)) (by rw [IntKind.wrap_u64]; omega) ?_
  refine ⟨by omega, ?_⟩
  have e32 : ((hi : Int) * 2 ^ min (Int.toNat 32) IntKind.u64.bits) = ((hi * 4294967296 : Nat) : Int) := by
    have e : (2 : Int) ^ min (Int.toNat 32) IntKind.u64.bits = 4294967296 := by decide
    rw [e]; omega
  refine DWrap.eq (m := ((hi * 4294967296 : Nat) : Int)) (by rw [e32, IntKind.wrap_u64]; omega) ?_
  refine DWrap.eq (m := (lo : Int)) (by rw [IntKind.wrap_u64]; omega) ?_
  clear e32
  have hor := or64 hz hl
  generalize hi * 4294967296 + lo = z at *
  refine DDraw.intro hE (.take 0 (.take 1 (.take 2 (.take 3 (.take 4 (.take 5 (.take 6 (.take 7 (.take 8 (.take 9 (.take 10 (.take 11 .done)))))))))))) none (· = h) (by kernel_rfl) rfl ?_
  refine DWrap.eq (m := (y : Int)) (by rw [IntKind.wrap_u64]; omega) ?_
  have hdz : z / y ≤ z := Nat.div_le_self _ _
  have hzy : ((z : Int) / (y : Int)) = ((z / y : Nat) : Int) := (Int.natCast_ediv z y).symm
  have hzm : ((z : Int) % (y : Int)) = ((z % y : Nat) : Int) := (Int.natCast_emod z y).symm
  generalize z / y = Q at *
  generalize z % y = R at *
  refine ⟨by omega, ?_⟩
  refine DWrap.eq (m := (Q : Int)) (by rw [hor, Int.tdiv_eq_ediv_of_nonneg (by omega), hzy, IntKind.wrap_u64]; omega) ?_
  refine DWrap.eq (m := (Q : Int)) (by rw [IntKind.wrap_u32']; omega) ?_
  refine DWrap.eq (m := (y : Int)) (by rw [IntKind.wrap_u64]; omega) ?_
  refine ⟨by omega, ?_⟩
  refine DWrap.eq (m := (R : Int)) (by rw [hor, Int.tmod_eq_emod_of_nonneg (by omega), hzm, IntKind.wrap_u32']; omega) ?_
  exact ⟨rfl, rfl⟩

theorem dval_drop {A : List Nat} {i : Nat} (h : i < A.length) : dval (A.drop i) = A[i] + 4294967296 * dval (A.drop (i + 1)) := by
  rw [List.drop_eq_getElem_cons h]; rfl

theorem div_step {a H d : Nat} (hd : 0 < d) : (a + 4294967296 * H) / d = ((H % d) * 4294967296 + a) / d + 4294967296 * (H / d) ∧ (a + 4294967296 * H) % d = ((H % d) * 4294967296 + a) % d := by
  have e : a + 4294967296 * H = ((H % d) * 4294967296 + a) + d * (4294967296 * (H / d)) := by
    have := Nat.div_add_mod H d
    have h2 : d * (4294967296 * (H / d)) = 4294967296 * (d * (H / d)) := by rw [Nat.mul_left_comm]
    rw [h2]; omega
  rw [e, Nat.add_mul_div_left _ _ hd, Nat.add_mul_mod_self_left]
  exact ⟨rfl, rfl⟩

set_option maxHeartbeats 800000 in
theorem DivSmall_any (h : Heap) (v : Value) (n d : Nat) (hv : NatAt h v n) (hlen : (digs n).length < 100000000) (hd0 : 0 < d) (hd : d < 4294967296) :
    Spec E.P f_natural_DivSmall #[v, .int .u32 d] h (fun v' h' => Ext h h' ∧ ∃ w, v' = .tuple #[w, .int .u32 (n % d : Nat), .bool true] ∧ NatAt h' w (n / d)) := by
  refine Spec.intro hE (args := [_, _]) F_natural_DivSmall rfl rfl (Nat.le_of_ble_eq_true rfl) ?_
  refine bsp.dec (p := (d : Int) = 0) (fun hbad => ?_) (fun _ => ?_)
  · exfalso; omega
  refine (trim_nat h v (digs n) hv (digs_dg n) (by omega)).mono ?_
  rintro v1 h ⟨rfl, hv1, -⟩
  rw [dval_digs] at hv1
  have hval := dval_digs n
  have gA := digs_dg n
  obtain ⟨a, cap, rfl, hcap, hA⟩ := hv1
  generalize digs n = A at *
  refine DMake.intro A.length A.length rfl rfl (Nat.le_refl _) (by omega) (by omega) ?_
  intro zb h1 hzb hx1 hs1 hg1
  have hz0 : NumB h1 zb .u32 t_uint32 (List.replicate A.length 0) := by
    unfold NumB; rw [hg1, show (vnum IntKind.u32) = (fun (d : Nat) => Value.int .u32 d) from rfl, ← map_replicate_zero]; rfl
  refine DWrap.is ((A.length : Int) - 1) rfl (by omega) ?_
  refine DLoop.intro hE (ι := Nat × List Nat) (fun s => [(9, .int .i64 ((s.1 : Int) - 1)), (8, .int .u32 (dval (A.drop s.1) % d : Nat)), (7, .slice (some ⟨zb, 0, none⟩) A.length A.length), (0, .slice a A.length cap), (1, .int .u32 d)])
    (fun s h' => Old h.size h h' ∧ s.1 ≤ A.length ∧ s.2.length = A.length ∧ Dg s.2 ∧ NumB h' zb .u32 t_uint32 s.2 ∧ dval (s.2.drop s.1) = dval (A.drop s.1) / d) (fun s => s.1) (A.length, List.replicate A.length 0) rfl
    ⟨rfl, by simp [dval]; rfl, rfl, rfl, rfl, trivial⟩ ⟨hx1.old (Nat.le_refl _), Nat.le_refl _, by simp, Dg.zeros _, hz0, by simp [dval]⟩ ?_
  rintro ⟨k, Z⟩ h2 ⟨ho, hk, hZl, hZg, hZ, hq⟩
  dsimp only at hk hZl hZg hZ hq ⊢
  refine bsp.dec (fun hc => ?_) (fun hc => ?_)
  · obtain ⟨m, rfl⟩ : ∃ m, k = m + 1 := ⟨k - 1, by omega⟩
    have hmA : m < A.length := by omega
    obtain ⟨ba, oa, rfl, hca, -⟩ := hA (by intro e; subst e; simp at hmA)
    have hrest : dval (A.drop (m + 1)) % d < d := Nat.mod_lt _ hd0
    obtain ⟨s1, s2⟩ := div_step (a := A[m]) (H := dval (A.drop (m + 1))) hd0
    refine DIdx.intro m rfl (by omega) hmA ?_
    refine DLoad.scalar (ho.cell (hca m hmA) (cell_lt (hca m hmA))) ?_
    refine (Div32_any h2 _ A[m] d hrest (gA.get hmA) hd).mono ?_
    rintro _ h3 ⟨rfl, rfl⟩
    refine DIdx.intro m rfl (by omega) hmA ?_
    refine DStore.num m (Nat.zero_add _) hZ (by omega) ?_
    intro h4 hu4 hZ4
    refine DWrap.is ((m : Int) - 1) (by omega) (by omega) ?_
    have hdig : (dval (A.drop (m + 1)) % d * 4294967296 + A[m]) / d < 4294967296 := by
      rw [Nat.div_lt_iff_lt_mul hd0]
      have : (dval (A.drop (m + 1)) % d + 1) * 4294967296 ≤ d * 4294967296 := Nat.mul_le_mul_right _ (by omega)
      have := gA.get hmA
      rw [Nat.mul_comm 4294967296 d]
      omega
    refine ⟨(m, Z.set m ((dval (A.drop (m + 1)) % d * 4294967296 + A[m]) / d)), ⟨rfl, by dsimp only; rw [dval_drop hmA, s2]; rfl, rfl, rfl, rfl, trivial⟩, ⟨ho.upd hu4 (by omega), by dsimp only; omega, by simpa using hZl, hZg.set hdig, hZ4, ?_⟩, Nat.lt_succ_self _⟩
    dsimp only
    have hZm : m < (Z.set m ((dval (A.drop (m + 1)) % d * 4294967296 + A[m]) / d)).length := by simp; omega
    rw [dval_drop hZm, dval_drop hmA, s1, ← hq, List.getElem_set_self, List.drop_set_of_lt (by omega)]
  · obtain rfl : k = 0 := by omega
    rw [List.drop_zero, List.drop_zero, hval] at hq
    have hn4 : Nums .u32 h2 (.slice (some ⟨zb, 0, none⟩) A.length A.length) Z := ⟨some ⟨zb, 0, none⟩, A.length, by rw [hZl], by omega, hZ.numsA⟩
    refine (trim_nat h2 _ Z hn4 hZg (by omega)).mono ?_
    rintro w h3 ⟨rfl, hw, -⟩
    rw [hq] at hw
    refine ⟨ho.toExt, w, ?_, hw⟩
    rw [List.drop_zero, hval]
end Go.Vc
