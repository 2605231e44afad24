/- Contracts of the functions on natural numbers. -/
import Derived.Test.YtjjcncedfphnhaaEnv
import Derived.Test.YtjjcncedfphnhaaMth
namespace Go.Vc
open Go.Proofs

/-- digits lie in blocks of digits -/
def ElemT (h : Heap) (b : Nat) (k : IntKind) : Prop := k = .u32 → ∃ c fr, h[b]? = some (.cells c t_uint32 fr)
theorem ElemT.ext {h h' : Heap} (e : Ext h h') {b : Nat} {k : IntKind} (x : ElemT h b k) : ElemT h' b k := fun hk => by
  obtain ⟨c, fr, hb⟩ := x hk; exact ⟨c, fr, e.at hb⟩

/-- numbers of one kind in a row -/
def NumsA (k : IntKind) (h : Heap) (a : Option Addr) (ds : List Nat) : Prop :=
  ds ≠ [] → ∃ b off, a = some ⟨b, off, none⟩ ∧ (∀ j (hj : j < ds.length), cell h b (off + j) = some (.int k (ds[j] : Int))) ∧ ElemT h b k

def Nums (k : IntKind) (h : Heap) (v : Value) (ds : List Nat) : Prop :=
  ∃ a cap, v = .slice a ds.length cap ∧ ds.length ≤ cap ∧ NumsA k h a ds

/-- a natural number in canonical form -/
def NatAt (h : Heap) (v : Value) (n : Nat) : Prop := Nums .u32 h v (digs n)

theorem NumsA.ext {k : IntKind} {h h' : Heap} (e : Ext h h') {a : Option Addr} {ds : List Nat} (hn : NumsA k h a ds) : NumsA k h' a ds := fun hne => by
  obtain ⟨b, off, ha, hc, ht⟩ := hn hne
  exact ⟨b, off, ha, fun j hj => e.cell (hc j hj), ht.ext e⟩
theorem Nums.ext {k : IntKind} {h h' : Heap} (e : Ext h h') {v : Value} {ds : List Nat} (hn : Nums k h v ds) : Nums k h' v ds := by
  obtain ⟨a, cap, hv, hc, hn⟩ := hn
  exact ⟨a, cap, hv, hc, hn.ext e⟩
theorem NatAt.ext {h h' : Heap} (e : Ext h h') {v : Value} {n : Nat} (hn : NatAt h v n) : NatAt h' v n := Nums.ext e hn

theorem NumsA.take {k : IntKind} {h : Heap} {a : Option Addr} {ds : List Nat} (hn : NumsA k h a ds) (n : Nat) : NumsA k h a (ds.take n) := fun hne => by
  have hd : ds ≠ [] := by intro e; subst e; simp at hne
  obtain ⟨b, off, ha, hc, ht⟩ := hn hd
  exact ⟨b, off, ha, fun j hj => by
    have : j < ds.length := by rw [List.length_take] at hj; omega
    rw [hc j this]; simp, ht⟩

/-- a block whose first cells are these numbers -/
theorem NumsA.block {k : IntKind} {h : Heap} {b : Nat} {e : TypeId} {fr : Nat × Nat} {ds : List Nat} (hb : h[b]? = some (.cells (ds.map fun (d : Nat) => Value.int k d).toArray e fr)) (he : k = .u32 → e = t_uint32 := by exact fun _ => rfl) : NumsA k h (some ⟨b, 0, none⟩) ds := fun _ =>
  ⟨b, 0, rfl, fun j hj => by unfold cell; rw [hb]; simp [hj], fun hk => ⟨_, _, by rw [← he hk]; exact hb⟩⟩

set_option maxHeartbeats 400000 in
theorem trim_any (h : Heap) (a : Option Addr) (len cap : Nat) (ds : List Nat) (hle : len = ds.length) (hd : NumsA .u32 h a ds) (hlen : len < 1000000000) (hcap : len ≤ cap) :
    Spec E.P f_natural_trim #[.slice a len cap] h (fun v h' => h' = h ∧ v = .slice a (tlen ds ds.length) cap) := by
  subst hle
  refine Spec.intro hE (args := [.slice a ds.length cap]) F_natural_trim rfl rfl (Nat.le_of_ble_eq_true rfl) ?_
  refine DLoop.intro hE (ι := Nat) (fun k => [(0, .slice a ds.length cap), (3, .int .i64 k)]) (fun k h' => h' = h ∧ k ≤ ds.length ∧ tlen ds ds.length = tlen ds k) (fun k => k) ds.length rfl ⟨rfl, rfl, trivial⟩ ⟨rfl, Nat.le_refl _, rfl⟩ ?_
  rintro k h' ⟨rfl, hk, ht⟩
  conv => whnf
  refine bsp.dec (fun hc => ?_) (fun hc => ?_)
  · obtain ⟨m, rfl⟩ : ∃ m, k = m + 1 := ⟨k - 1, by omega⟩
    obtain ⟨b, off, ha, hcell, -⟩ := hd (by intro e; subst e; simp at hk)
    refine DWrap.is m (by omega) (by omega) ?_
    refine DIdx.intro m ha rfl (by omega) ?_
    refine DLoad.scalar (hcell m (by omega)) ?_
    conv => whnf
    refine bsp.intro (fun hz => ?_) (fun hz => ?_)
    · refine DWrap.is m (by omega) (by omega) ?_
      refine ⟨m, ⟨rfl, rfl, trivial⟩, ⟨rfl, by omega, ?_⟩, by omega⟩
      have h0 : ds.getD m 0 = 0 := by
        simp at hz
        simp [List.getD, hz, show m < ds.length by omega]
      rw [ht]
      show (if ds.getD m 0 = 0 then tlen ds m else m + 1) = _
      rw [if_pos h0]
    · refine DSlice.intro 0 (m + 1) rfl rfl (by omega) (by omega) ⟨rfl, ?_⟩
      rw [slV_zero, ht]
      have h0 : ds.getD m 0 ≠ 0 := by
        simp at hz
        simp [List.getD, hz, show m < ds.length by omega]
      have : tlen ds (m + 1) = m + 1 := by
        show (if ds.getD m 0 = 0 then tlen ds m else m + 1) = _
        rw [if_neg h0]
      rw [this]
  · obtain rfl : k = 0 := by omega
    refine DSlice.intro 0 0 rfl rfl (by omega) (by omega) ⟨rfl, ?_⟩
    rw [slV_zero, ht]; rfl

/-- trim, at the level of numbers -/
theorem trim_nat (h : Heap) (v : Value) (ds : List Nat) (hd : Nums .u32 h v ds) (hdg : Dg ds) (hlen : ds.length < 1000000000) :
    Spec E.P f_natural_trim #[v] h (fun v' h' => h' = h ∧ NatAt h v' (dval ds) ∧ v'.ownBlock = v.ownBlock) := by
  obtain ⟨a, cap, rfl, hcap, hn⟩ := hd
  refine (trim_any h a _ cap ds rfl hn hlen hcap).mono ?_
  rintro v' h' ⟨rfl, rfl⟩
  refine ⟨rfl, ⟨a, cap, ?_, ?_, ?_⟩, by cases a <;> rfl⟩
  · rw [tlen_eq hdg]
  · rw [← tlen_eq hdg]; have := tlen_le ds ds.length; omega
  · rw [← take_tlen ds hdg]; exact hn.take _

theorem shr32 (n : Int) (_ : 0 ≤ n) : n.fdiv (2 ^ min (Int.toNat 32) IntKind.u64.bits) = n / 4294967296 := by
  have e : (2 : Int) ^ min (Int.toNat 32) IntKind.u64.bits = 4294967296 := by decide
  rw [e, Int.fdiv_eq_ediv_of_nonneg _ (by decide)]

theorem Add32_any (h : Heap) (x y c : Nat) (hx : x < 4294967296) (hy : y < 4294967296) (hc : c < 4294967296) :
    Spec E.P f_bits_Add32 #[.int .u32 x, .int .u32 y, .int .u32 c] h (fun v h' => h' = h ∧ v = .tuple #[.int .u32 ((x + y + c) % 4294967296 : Nat), .int .u32 ((x + y + c) / 4294967296 : Nat)]) := by
  refine Spec.intro hE (args := [.int .u32 x, .int .u32 y, .int .u32 c]) F_bits_Add32 rfl rfl (Nat.le_of_ble_eq_true rfl) ?_
  refine DWrap.eq (m := x) (by rw [IntKind.wrap_u64]; omega) ?_
  refine DWrap.eq (m := y) (by rw [IntKind.wrap_u64]; omega) ?_
  refine DWrap.eq (m := x + y) (by rw [IntKind.wrap_u64]; omega) ?_
  refine DWrap.eq (m := c) (by rw [IntKind.wrap_u64]; omega) ?_
  refine DWrap.eq (m := x + y + c) (by rw [IntKind.wrap_u64]; omega) ?_
  refine DWrap.eq (m := ((x + y + c) % 4294967296 : Nat)) (by rw [IntKind.wrap_u32']; omega) ?_
  refine ⟨by omega, ?_⟩
  refine DWrap.eq (m := ((x + y + c) / 4294967296 : Nat)) ?_ ⟨rfl, rfl⟩
  rw [shr32 _ (by omega), IntKind.wrap_u32']
  omega

theorem Mul32_any (h : Heap) (x y : Nat) (hx : x < 4294967296) (hy : y < 4294967296) :
    Spec E.P f_bits_Mul32 #[.int .u32 x, .int .u32 y] h (fun v h' => h' = h ∧ v = .tuple #[.int .u32 (x * y / 4294967296 : Nat), .int .u32 (x * y % 4294967296 : Nat)]) := by
  have hxy : x * y < 18446744073709551616 := by
    have h1 : x * y ≤ 4294967295 * 4294967295 := Nat.mul_le_mul (by omega) (by omega)
    omega
  refine Spec.intro hE (args := [.int .u32 x, .int .u32 y]) F_bits_Mul32 rfl rfl (Nat.le_of_ble_eq_true rfl) ?_
  refine DWrap.eq (m := x) (by rw [IntKind.wrap_u64]; omega) ?_
  refine DWrap.eq (m := y) (by rw [IntKind.wrap_u64]; omega) ?_
  refine DWrap.eq (m := (x * y : Nat)) (by rw [IntKind.wrap_u64, ← Int.natCast_mul]; omega) ?_
  refine ⟨by omega, ?_⟩
  refine DWrap.eq (m := (x * y / 4294967296 : Nat)) (by rw [shr32 _ (by omega), IntKind.wrap_u32']; omega) ?_
  refine DWrap.eq (m := (x * y % 4294967296 : Nat)) (by rw [IntKind.wrap_u32']; omega) ?_
  exact ⟨rfl, rfl⟩

/-- one cell -/
def Cell1 (h : Heap) (b : Nat) (e : TypeId) (v : Value) : Prop := h[b]? = some (.cells [v].toArray e (0, 0))

theorem Cell1.get {h : Heap} {b : Nat} {e : TypeId} {v : Value} (hc : Cell1 h b e v) : cell h b 0 = some v := by
  unfold cell; rw [hc]; rfl

theorem addClosure (h : Heap) (x y c b : Nat) (hx : x < 4294967296) (hy : y < 4294967296) (hc : c < 4294967296) (hb : Cell1 h b t_uint32 (.int .u32 c)) :
    Spec E.P f_natural_Add_1 #[.int .u32 x, .int .u32 y, .pointer (some ⟨b, 0, none⟩)] h (fun v h' => Upd h b (.cells [.int .u32 ((x + y + c) / 4294967296 : Nat)].toArray t_uint32 (0, 0)) h' ∧ v = .int .u32 ((x + y + c) % 4294967296 : Nat)) := by
  refine Spec.intro hE (args := [.int .u32 x, .int .u32 y, .pointer (some ⟨b, 0, none⟩)]) F_natural_Add_1 rfl rfl (Nat.le_of_ble_eq_true rfl) ?_
  refine DLoad.scalar hb.get ?_
  refine (Add32_any h x y c hx hy hc).mono ?_
  rintro v h' ⟨rfl, rfl⟩
  refine DStore.intro (vs := [.int .u32 ((x + y + c) / 4294967296 : Nat)]) hb rfl rfl (Nat.le_refl _) (by simp [Value.oneCell']) ?_
  intro h2 hu
  exact ⟨hu, rfl⟩

end Go.Vc

namespace Go.Vc
theorem top_bit {v : Nat} (h : v < 4294967296) : v / 2147483648 = (v.testBit 31).toNat := by
  rw [Nat.testBit_eq_decide_div_mod_eq]
  have : v / 2 ^ 31 < 2 := by omega
  have e : (2 : Nat) ^ 31 = 2147483648 := by decide
  rw [e] at this ⊢
  by_cases h1 : v / 2147483648 = 1
  · rw [h1]; decide
  · have : v / 2147483648 = 0 := by omega
    rw [this]; decide

theorem bit_of {v : Nat} (h : v < 4294967296) : v.testBit 31 = decide (2147483648 ≤ v) := by
  have := top_bit h
  cases hb : v.testBit 31 with
  | true => rw [hb] at this; simp at this; symm; simp; omega
  | false => rw [hb] at this; simp at this; symm; simp; omega

theorem sub_bits (x y b : Nat) (hx : x < 4294967296) (hy : y < 4294967296) (hb : b ≤ 1) (d : Nat) (hd : d = (x + 8589934592 - y - b) % 4294967296) :
    (((4294967295 ^^^ x) &&& y) ||| ((4294967295 ^^^ (x ^^^ y)) &&& d)) / 2147483648 = if x < y + b then 1 else 0 := by
  have hdl : d < 4294967296 := by omega
  have hm : (4294967295 : Nat) < 2 ^ 32 := by decide
  have e32 : (2 : Nat) ^ 32 = 4294967296 := by decide
  have l1 : 4294967295 ^^^ x < 4294967296 := by rw [← e32]; exact Nat.xor_lt_two_pow hm (by rw [e32]; exact hx)
  have l2 : x ^^^ y < 4294967296 := by rw [← e32]; exact Nat.xor_lt_two_pow (by rw [e32]; exact hx) (by rw [e32]; exact hy)
  have l3 : 4294967295 ^^^ (x ^^^ y) < 4294967296 := by rw [← e32]; exact Nat.xor_lt_two_pow hm (by rw [e32]; exact l2)
  have l4 : (4294967295 ^^^ x) &&& y < 2 ^ 32 := Nat.and_lt_two_pow _ (by rw [e32]; exact hy)
  have l5 : (4294967295 ^^^ (x ^^^ y)) &&& d < 2 ^ 32 := Nat.and_lt_two_pow _ (by rw [e32]; exact hdl)
  have l6 := Nat.or_lt_two_pow l4 l5
  rw [e32] at l6
  rw [top_bit l6]
  simp only [Nat.testBit_or, Nat.testBit_and, Nat.testBit_xor]
  rw [bit_of hx, bit_of hy, bit_of hdl]
  have hm' : Nat.testBit 4294967295 31 = true := by decide
  rw [hm']
  by_cases c1 : 2147483648 ≤ x <;> by_cases c2 : 2147483648 ≤ y <;> by_cases c3 : 2147483648 ≤ d <;> simp [c1, c2, c3] <;> omega

theorem Sub32_any (h : Heap) (x y b : Nat) (hx : x < 4294967296) (hy : y < 4294967296) (hb : b ≤ 1) :
    Spec E.P f_bits_Sub32 #[.int .u32 x, .int .u32 y, .int .u32 b] h (fun v h' => h' = h ∧ v = .tuple #[.int .u32 ((x + 8589934592 - y - b) % 4294967296 : Nat), .int .u32 ((if x < y + b then 1 else 0 : Nat) : Int)]) := by
  refine Spec.intro hE (args := [.int .u32 x, .int .u32 y, .int .u32 b]) F_bits_Sub32 rfl rfl (Nat.le_of_ble_eq_true rfl) ?_
  refine DWrap.eq (m := ((x + 4294967296 - y) % 4294967296 : Nat)) (by rw [IntKind.wrap_u32']; omega) ?_
  refine DWrap.eq (m := ((x + 8589934592 - y - b) % 4294967296 : Nat)) (by rw [IntKind.wrap_u32']; omega) ?_
  refine ⟨by omega, rfl, ?_⟩
  have e31 : (2 : Int) ^ min (Int.toNat 31) IntKind.u32.bits = 2147483648 := by decide
  have em : (if IntKind.u32.signed = true then -1 else IntKind.u32.max) = ((4294967295 : Nat) : Int) := by decide
  have e32 : (2 : Nat) ^ 32 = 4294967296 := by decide
  have hm : (4294967295 : Nat) < 2 ^ 32 := by decide
  have l1 : 4294967295 ^^^ x < 4294967296 := by rw [← e32]; exact Nat.xor_lt_two_pow hm (by rw [e32]; exact hx)
  have l2 : x ^^^ y < 4294967296 := by rw [← e32]; exact Nat.xor_lt_two_pow (by rw [e32]; exact hx) (by rw [e32]; exact hy)
  have l3 : 4294967295 ^^^ (x ^^^ y) < 4294967296 := by rw [← e32]; exact Nat.xor_lt_two_pow hm (by rw [e32]; exact l2)
  have ld : (x + 8589934592 - y - b) % 4294967296 < 4294967296 := Nat.mod_lt _ (by decide)
  have l4 : (4294967295 ^^^ x) &&& y < 4294967296 := by rw [← e32]; exact Nat.and_lt_two_pow _ (by rw [e32]; exact hy)
  have l5 : (4294967295 ^^^ (x ^^^ y)) &&& ((x + 8589934592 - y - b) % 4294967296) < 4294967296 := by rw [← e32]; exact Nat.and_lt_two_pow _ (by rw [e32]; exact ld)
  rw [em, u32_xor_nat _ _ (by decide) hx, u32_xor_nat _ _ hx hy, u32_xor_nat _ _ (by decide) l2, u32_and_nat _ _ l1 hy, u32_and_nat _ _ l3 ld, u32_or_nat _ _ l4 l5, e31, Int.fdiv_eq_ediv_of_nonneg _ (by decide)]
  have := sub_bits x y b hx hy hb _ rfl
  rw [← this]
  rfl

theorem subClosure (h : Heap) (x y c b : Nat) (hx : x < 4294967296) (hy : y < 4294967296) (hc : c ≤ 1) (hb : Cell1 h b t_uint32 (.int .u32 c)) :
    Spec E.P f_natural_Sub_1 #[.int .u32 x, .int .u32 y, .pointer (some ⟨b, 0, none⟩)] h (fun v h' => Upd h b (.cells [.int .u32 ((if x < y + c then 1 else 0 : Nat) : Int)].toArray t_uint32 (0, 0)) h' ∧ v = .int .u32 ((x + 8589934592 - y - c) % 4294967296 : Nat)) := by
  refine Spec.intro hE (args := [.int .u32 x, .int .u32 y, .pointer (some ⟨b, 0, none⟩)]) F_natural_Sub_1 rfl rfl (Nat.le_of_ble_eq_true rfl) ?_
  refine DLoad.scalar hb.get ?_
  refine (Sub32_any h x y c hx hy hc).mono ?_
  rintro v h' ⟨rfl, rfl⟩
  refine DStore.intro (vs := [.int .u32 ((if x < y + c then 1 else 0 : Nat) : Int)]) hb rfl rfl (Nat.le_refl _) (by simp [Value.oneCell']) ?_
  intro h2 hu
  exact ⟨hu, rfl⟩

/-! ### Normal, IsZero -/
theorem map_replicate_zero (k : IntKind) (n : Nat) : (List.replicate n [Value.int k 0]).flatten = (List.replicate n 0).map fun (d : Nat) => Value.int k d := by
  induction n with
  | zero => rfl
  | succ n ih => simp [List.replicate_succ, ih]

theorem NumsA.cellsAt {k : IntKind} {h : Heap} {a : Option Addr} {ds : List Nat} (hn : NumsA k h a ds) (hne : ds ≠ []) : ∃ b off, a = some ⟨b, off, none⟩ ∧ CellsAt h b off (ds.map fun (d : Nat) => Value.int k d) := by
  obtain ⟨b, off, ha, hc, -⟩ := hn hne
  refine ⟨b, off, ha, CellsAt.mk fun j v hj => ?_⟩
  simp only [List.getElem?_map, Option.map_eq_some_iff] at hj
  obtain ⟨d, hd, rfl⟩ := hj
  obtain ⟨hlt, rfl⟩ := List.getElem?_eq_some_iff.1 hd
  exact hc j hlt

theorem ints_one (k : IntKind) (ds : List Nat) : ∀ u ∈ (ds.map fun (d : Nat) => Value.int k d), u.oneCell' = true := by
  intro u hu; obtain ⟨d, _, rfl⟩ := List.mem_map.1 hu; rfl

/-- a fresh block of numbers -/
theorem natural_Normal_any (h : Heap) (v : Value) (ds : List Nat) (hd : Nums .u32 h v ds) (hdg : Dg ds) (hlen : ds.length < 1000000000) :
    Spec E.P f_natural_Normal #[v] h (fun v' h' => Ext h h' ∧ NatAt h' v' (dval ds)) := by
  refine Spec.intro hE (args := [v]) F_natural_Normal rfl rfl (Nat.le_of_ble_eq_true rfl) ?_
  refine (trim_nat h v ds hd hdg hlen).mono ?_
  rintro v' h' ⟨rfl, ⟨a, cap, rfl, hcap, hn⟩, _⟩
  have hl : (digs (dval ds)).length < 1000000000 := by rw [← tlen_eq hdg]; have := tlen_le ds ds.length; omega
  generalize hD : digs (dval ds) = D at *
  refine DMake.intro D.length D.length rfl rfl (Nat.le_refl _) (by omega) (by omega) ?_
  intro b h1 hb hx hs hg
  have hg' : h1[b]? = some (.cells ((List.replicate D.length 0).map fun (d : Nat) => Value.int .u32 d).toArray t_uint32 (0, 0)) := by rw [hg, ← map_replicate_zero]; rfl
  refine DRun.copy hE (t := t_natural_Nat) rfl rfl (ei := ⟨.int .u32, 1, 4, .int .u32 0⟩) rfl rfl hg' (D.map fun (d : Nat) => Value.int .u32 d) (by simp) (by simp) (fun hne => ?_) (ints_one _ _) ?_
  · exact (hn.ext hx).cellsAt (by simpa using hne)
  · intro h2 hu
    have hsp : splice ((List.replicate D.length 0).map fun (d : Nat) => Value.int .u32 d) 0 (D.map fun (d : Nat) => Value.int .u32 d) = D.map fun (d : Nat) => Value.int .u32 d := by
      simp [splice]
    rw [hsp] at hu
    refine ⟨⟨by rw [hu.size]; omega, fun k hk => (hu.get k (by omega)).trans (hx.get k hk)⟩, ?_⟩
    unfold NatAt
    rw [hD]
    exact ⟨_, D.length, rfl, Nat.le_refl _, NumsA.block hu.at_⟩

theorem IsZero_any (h : Heap) (v : Value) (ds : List Nat) (hd : Nums .u32 h v ds) (hdg : Dg ds) (hlen : ds.length < 1000000000) :
    Spec E.P f_natural_IsZero #[v] h (fun v' h' => h' = h ∧ v' = .bool (decide (dval ds = 0))) := by
  refine Spec.intro hE (args := [v]) F_natural_IsZero rfl rfl (Nat.le_of_ble_eq_true rfl) ?_
  refine (trim_nat h v ds hd hdg hlen).mono ?_
  rintro v' h' ⟨rfl, ⟨a, cap, rfl, hcap, hn⟩, _⟩
  refine ⟨rfl, ?_⟩
  have : ((digs (dval ds)).length = 0) ↔ dval ds = 0 := by rw [List.length_eq_zero_iff, digs_nil]
  show Value.bool _ = Value.bool _
  congr 1
  rw [Bool.eq_iff_iff]
  simp only [beq_iff_eq, decide_eq_true_eq]
  rw [← this]
  omega

end Go.Vc
