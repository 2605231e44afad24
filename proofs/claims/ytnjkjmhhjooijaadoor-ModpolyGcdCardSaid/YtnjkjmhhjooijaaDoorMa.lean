/- Slices of numbers, and the arithmetic modulo a number: contracts. -/
import Derived.Test.YtnjkjmhhjooijaaDoorEnv
import Derived.Test.YtnjkjmhhjooijaaDoorMp
namespace Go.Vc
open Go.Proofs

def Whole (h : Heap) (b : Nat) (e : TypeId) (vs : List Value) : Prop := h[b]? = some (.cells vs.toArray e (0, 0))
theorem Whole.get {h : Heap} {b : Nat} {e : TypeId} {vs : List Value} (w : Whole h b e vs) (i : Nat) {v : Value} (hi : vs[i]? = some v) : cell h b i = some v := by
  unfold cell; rw [w]; simpa using hi
theorem Whole.cellsAt {h : Heap} {b : Nat} {e : TypeId} {vs : List Value} (w : Whole h b e vs) : CellsAt h b 0 vs := CellsAt.mk fun j v hj => by
  rw [Nat.zero_add]; exact w.get j hj
theorem Whole.ext {h h' : Heap} (x : Ext h h') {b : Nat} {e : TypeId} {vs : List Value} (w : Whole h b e vs) : Whole h' b e vs := x.at w
theorem DStore.full {n b : Nat} {v : Value} {h : Heap} {K : Heap → Prop} {c : List Value} {e : TypeId} {vs : List Value} (hb : h[b]? = some (.cells c.toArray e (0, 0))) (hv : v.cells = vs.toArray) (hn : vs.length = n) (hc : c.length = n) (h1 : vs.all Value.oneCell' = true)
    (hk : ∀ h', Upd h b (.cells vs.toArray e (0, 0)) h' → K h') : DStore n b 0 v h K := by
  refine DStore.intro hb hv hn (by omega) (fun u hu => List.all_eq_true.1 h1 u hu) ?_
  intro h' hu
  refine hk h' ?_
  have : splice c 0 vs = vs := by simp [splice, hn, hc]
  rwa [this] at hu
theorem DPure.build {E : Env} {t : TypeId} {parts : Array (Nat × Value)} {K : Value → Prop} (cs : List Value) (h : E.P.built t parts.toList = some cs.toArray) (hk : K (.agg cs.toArray)) : DPure E (Instr.build t parts) K :=
  DPure.intro _ (fun w => run_build w t parts _ h) hk

/-- numbers of one kind in a row -/
def NumsA (k : IntKind) (h : Heap) (a : Option Addr) (ds : List Nat) : Prop :=
  ds ≠ [] → ∃ b off, a = some ⟨b, off, none⟩ ∧ (∀ j (hj : j < ds.length), cell h b (off + j) = some (.int k (ds[j] : Int)))
def Nums (k : IntKind) (h : Heap) (v : Value) (ds : List Nat) : Prop :=
  ∃ a cap, v = .slice a ds.length cap ∧ (ds.length ≤ cap ∧ (a = none → cap = 0)) ∧ NumsA k h a ds

theorem NumsA.ext {k : IntKind} {h h' : Heap} (e : Ext h h') {a : Option Addr} {ds : List Nat} (hn : NumsA k h a ds) : NumsA k h' a ds := fun hne => by
  obtain ⟨b, off, ha, hc⟩ := hn hne
  exact ⟨b, off, ha, fun j hj => e.cell (hc j hj)⟩
theorem Nums.ext {k : IntKind} {h h' : Heap} (e : Ext h h') {v : Value} {ds : List Nat} (hn : Nums k h v ds) : Nums k h' v ds := by
  obtain ⟨a, cap, hv, hc, hn⟩ := hn
  exact ⟨a, cap, hv, hc, hn.ext e⟩
theorem Nums.nil (k : IntKind) (h : Heap) : Nums k h (.slice none 0 0) [] := ⟨none, 0, rfl, ⟨Nat.le_refl _, fun _ => rfl⟩, fun hne => absurd rfl hne⟩
theorem NumsA.take {k : IntKind} {h : Heap} {a : Option Addr} {ds : List Nat} (hn : NumsA k h a ds) (n : Nat) : NumsA k h a (ds.take n) := fun hne => by
  have hd : ds ≠ [] := by intro e; subst e; simp at hne
  obtain ⟨b, off, ha, hc⟩ := hn hd
  exact ⟨b, off, ha, fun j hj => by
    have : j < ds.length := by rw [List.length_take] at hj; omega
    rw [hc j this]; simp⟩

abbrev vnum (k : IntKind) (d : Nat) : Value := .int k (d : Int)
/-- the block b holds just these numbers -/
def NumB (h : Heap) (b : Nat) (k : IntKind) (e : TypeId) (Z : List Nat) : Prop := h[b]? = some (.cells (Z.map (vnum k)).toArray e (0, 0))
theorem splice_set {α : Type} {Z : List Nat} {f : Nat → Value} {i v : Nat} (hi : i < Z.length) (_ : α) : splice (Z.map f) i [f v] = (Z.set i v).map f := by
  unfold splice
  rw [← List.map_take, ← List.map_drop, List.set_eq_take_append_cons_drop, if_pos hi]
  simp
theorem DStore.num {b off : Nat} (i : Nat) (ho : off = i) {k : IntKind} {e : TypeId} {h : Heap} {K : Heap → Prop} {Z : List Nat} {v : Nat} (hb : NumB h b k e Z) (hi : i < Z.length) (hk : ∀ h', Upd h b (.cells ((Z.set i v).map (vnum k)).toArray e (0, 0)) h' → NumB h' b k e (Z.set i v) → K h') : DStore 1 b off (.int k (v : Int)) h K := by
  subst ho
  refine DStore.intro (vs := [vnum k v]) hb rfl rfl (by rw [List.length_map]; exact hi) (by simp [Value.oneCell']) fun h' hu => ?_
  rw [splice_set hi ()] at hu
  exact hk h' hu hu.at_
theorem NumB.cell {h : Heap} {b : Nat} {k : IntKind} {e : TypeId} {Z : List Nat} (hb : NumB h b k e Z) {i : Nat} (hi : i < Z.length) : Vc.cell h b (0 + i) = some (vnum k Z[i]) := by
  unfold Vc.cell; rw [hb]; simp [hi]
theorem NumB.nums {h : Heap} {b : Nat} {k : IntKind} {e : TypeId} {Z : List Nat} (hb : NumB h b k e Z) : Nums k h (.slice (some ⟨b, 0, none⟩) Z.length Z.length) Z :=
  ⟨_, _, rfl, ⟨Nat.le_refl _, fun e => (by cases e)⟩, fun _ => ⟨b, 0, rfl, fun j hj => hb.cell hj⟩⟩
theorem map_replicate_zero (k : IntKind) (n : Nat) : (List.replicate n [Value.int k 0]).flatten = (List.replicate n 0).map fun (d : Nat) => Value.int k d := by
  induction n with
  | zero => rfl
  | succ n ih => simp [List.replicate_succ, ih]
theorem NumB.zeros {h : Heap} {b : Nat} {k : IntKind} {e : TypeId} {n : Nat} (hg : h[b]? = some (.cells (List.replicate n [Value.int k 0]).flatten.toArray e (0, 0))) : NumB h b k e (List.replicate n 0) := by
  unfold NumB; rw [hg, map_replicate_zero]

/-- reading an element -/
theorem Nums.at {k : IntKind} {h : Heap} {a : Option Addr} {cap : Nat} {ds : List Nat} {n : Nat} (hd : Nums k h (.slice a n cap) ds) {i : Nat} (hi : i < ds.length) : ∃ b off, a = some ⟨b, off, none⟩ ∧ cell h b (off + i) = some (.int k (co ds i : Int)) := by
  obtain ⟨a', cap', hv, -, hA⟩ := hd
  injection hv with e1 e2 e3
  obtain ⟨b, off, ha, hc⟩ := hA (by intro e; subst e; simp at hi)
  exact ⟨b, off, by rw [e1, ha], by rw [hc i hi, co_lt hi]⟩
theorem Nums.form {k : IntKind} {h : Heap} {v : Value} {ds : List Nat} (hd : Nums k h v ds) : ∃ a cap, v = .slice a ds.length cap ∧ ds.length ≤ cap := by
  obtain ⟨a, cap, hv, hc, -⟩ := hd; exact ⟨a, cap, hv, hc.1⟩

/-- the numbers lie in a block of numbers -/
def Ty (h : Heap) (v : Value) : Prop := ∀ k, v.ownBlock = some k → ∃ c fr, h[k]? = some (.cells c t_uint32 fr)
theorem Ty.ext {h h' : Heap} (x : Ext h h') {v : Value} (t : Ty h v) : Ty h' v := fun k hk => by
  obtain ⟨c, fr, hb⟩ := t k hk; exact ⟨c, fr, x.at hb⟩
theorem Ty.nil (h : Heap) : Ty h (.slice none 0 0) := fun k hk => by simp [Value.ownBlock] at hk
theorem Ty.block {h : Heap} {b n c : Nat} {Z : List Nat} (hZ : NumB h b .u32 t_uint32 Z) : Ty h (.slice (some ⟨b, 0, none⟩) n c) := fun k hk => by
  simp [Value.ownBlock] at hk
  subst hk
  exact ⟨_, _, hZ⟩
theorem Ty.same {h : Heap} {v v' : Value} (t : Ty h v) (e : v'.ownBlock = v.ownBlock) : Ty h v' := fun k hk => t k (by rw [← e]; exact hk)

set_option maxHeartbeats 400000 in
theorem modtrim_T (h : Heap) (v : Value) (ds : List Nat) (hd : Nums .u32 h v ds) (hlen : ds.length < 1000000000) :
    Spec E.P f_modpoly_trim #[v] h (fun v' h' => h' = h ∧ Nums .u32 h' v' (trimL ds) ∧ v'.ownBlock = v.ownBlock) := by
  have hd0 := hd
  obtain ⟨a, cap, rfl, hcap, hA⟩ := hd
  refine Spec.intro hE (args := [.slice a ds.length cap]) F_modpoly_trim rfl rfl (Nat.le_of_ble_eq_true rfl) ?_
  refine DLoop.intro hE (ι := Nat) (fun k => [(0, .slice a ds.length cap), (3, .int .i64 k)]) (fun k h' => h' = h ∧ k ≤ ds.length ∧ tlen ds ds.length = tlen ds k) (fun k => k) ds.length rfl ⟨rfl, rfl, trivial⟩ ⟨rfl, Nat.le_refl _, rfl⟩ ?_
  rintro k h' ⟨rfl, hk, ht⟩
  have fin : ∀ m, tlen ds ds.length = m → Nums .u32 h' (.slice a m cap) (trimL ds) ∧ (Value.slice a m cap).ownBlock = (Value.slice a ds.length cap).ownBlock := fun m hm => by
    have hl := trimL_len ds
    have := tlen_le ds ds.length
    exact ⟨⟨a, cap, by rw [hl, hm], ⟨by rw [hl]; omega, hcap.2⟩, hA.take _⟩, by cases a <;> rfl⟩
  conv => whnf
  refine bsp.dec (fun hc => ?_) (fun hc => ?_)
  · obtain ⟨m, rfl⟩ : ∃ m, k = m + 1 := ⟨k - 1, by omega⟩
    obtain ⟨b, off, ha, hcell⟩ := hd0.at (i := m) (by omega)
    refine DWrap.is m (by omega) (by omega) ?_
    refine DIdx.intro m ha rfl (by omega) ?_
    refine DLoad.scalar hcell ?_
    conv => whnf
    refine bsp.intro (fun hz => ?_) (fun hz => ?_)
    · have h0 : co ds m = 0 := by simpa using hz
      refine DWrap.is m (by omega) (by omega) ?_
      refine ⟨m, ⟨rfl, rfl, trivial⟩, ⟨rfl, by omega, ?_⟩, by omega⟩
      rw [ht]
      show (if co ds m = 0 then tlen ds m else m + 1) = _
      rw [if_pos h0]
    · have h0 : co ds m ≠ 0 := by simpa using hz
      refine DSlice.intro 0 (m + 1) rfl rfl (by omega) (by omega) ⟨rfl, ?_⟩
      rw [slV_zero]
      refine fin _ ?_
      rw [ht]
      show (if co ds m = 0 then tlen ds m else m + 1) = _
      rw [if_neg h0]
  · obtain rfl : k = 0 := by omega
    refine DSlice.intro 0 0 rfl rfl (by omega) (by omega) ⟨rfl, ?_⟩
    rw [slV_zero]
    exact fin _ ht

theorem modtrim_any (h : Heap) (v : Value) (ds : List Nat) (hd : Nums .u32 h v ds) (hlen : ds.length < 1000000000) :
    Spec E.P f_modpoly_trim #[v] h (fun v' h' => h' = h ∧ Nums .u32 h' v' (trimL ds)) := (modtrim_T h v ds hd hlen).mono fun _ _ hh => ⟨hh.1, hh.2.1⟩

set_option maxHeartbeats 400000 in
theorem refTrim_any (h : Heap) (v : Value) (ds : List Nat) (hd : Nums .u64 h v ds) (hlen : ds.length < 1000000000) :
    Spec E.P f_cylinderref10_Trim #[v] h (fun v' h' => h' = h ∧ Nums .u64 h v' (trimL ds)) := by
  have hd0 := hd
  obtain ⟨a, cap, rfl, hcap, hA⟩ := hd
  refine Spec.intro hE (args := [.slice a ds.length cap]) F_cylinderref10_Trim rfl rfl (Nat.le_of_ble_eq_true rfl) ?_
  refine DLoop.intro hE (ι := Nat) (fun k => [(0, .slice a ds.length cap), (3, .int .i64 k)]) (fun k h' => h' = h ∧ k ≤ ds.length ∧ tlen ds ds.length = tlen ds k) (fun k => k) ds.length rfl ⟨rfl, rfl, trivial⟩ ⟨rfl, Nat.le_refl _, rfl⟩ ?_
  rintro k h' ⟨rfl, hk, ht⟩
  have fin : ∀ m, tlen ds ds.length = m → Nums .u64 h' (.slice a m cap) (trimL ds) := fun m hm => by
    have hl := trimL_len ds
    have := tlen_le ds ds.length
    exact ⟨a, cap, by rw [hl, hm], ⟨by rw [hl]; omega, hcap.2⟩, hA.take _⟩
  conv => whnf
  refine bsp.dec (fun hc => ?_) (fun hc => ?_)
  · obtain ⟨m, rfl⟩ : ∃ m, k = m + 1 := ⟨k - 1, by omega⟩
    obtain ⟨b, off, ha, hcell⟩ := hd0.at (i := m) (by omega)
    refine DWrap.is m (by omega) (by omega) ?_
    refine DIdx.intro m ha rfl (by omega) ?_
    refine DLoad.scalar hcell ?_
    conv => whnf
    refine bsp.intro (fun hz => ?_) (fun hz => ?_)
    · have h0 : co ds m = 0 := by simpa using hz
      refine DWrap.is m (by omega) (by omega) ?_
      refine ⟨m, ⟨rfl, rfl, trivial⟩, ⟨rfl, by omega, ?_⟩, by omega⟩
      rw [ht]
      show (if co ds m = 0 then tlen ds m else m + 1) = _
      rw [if_pos h0]
    · have h0 : co ds m ≠ 0 := by simpa using hz
      refine DSlice.intro 0 (m + 1) rfl rfl (by omega) (by omega) ⟨rfl, ?_⟩
      rw [slV_zero]
      refine fin _ ?_
      rw [ht]
      show (if co ds m = 0 then tlen ds m else m + 1) = _
      rw [if_neg h0]
  · obtain rfl : k = 0 := by omega
    refine DSlice.intro 0 0 rfl rfl (by omega) (by omega) ⟨rfl, ?_⟩
    rw [slV_zero]
    exact fin _ ht

/-! ### numbers modulo m -/
/-- the modulus: 1 for 0 -/
def mx (m : Nat) : Nat := max m 1
theorem mx_pos (m : Nat) : 0 < mx m := by unfold mx; omega
theorem mx_lt {m : Nat} (h : m < 4294967296) : mx m < 4294967296 := by unfold mx; omega
theorem max_u32 (m : Nat) : (if (1 : Int) > (m : Int) then (1 : Int) else (m : Int)) = ((mx m : Nat) : Int) := by unfold mx; split <;> omega

theorem modulus_any (h : Heap) (m : Nat) (hm : m < 4294967296) : Spec E.P f_modular_modulus #[vnum .u32 m] h (fun v h' => h' = h ∧ v = vnum .u64 (mx m)) := by
  refine Spec.intro hE (args := [vnum .u32 m]) F_modular_modulus rfl rfl (Nat.le_of_ble_eq_true rfl) ?_
  have := mx_lt hm
  refine DWrap.eq (m := mx m) (by rw [max_u32, IntKind.wrap_u64]; omega) ?_
  exact ⟨rfl, rfl⟩
theorem modAdd_any (h : Heap) (a b m : Nat) (ha : a < 4294967296) (hb : b < 4294967296) (hm : m < 4294967296) : Spec E.P f_modular_Add #[vnum .u32 a, vnum .u32 b, vnum .u32 m] h (fun v h' => h' = h ∧ v = vnum .u32 ((a + b) % mx m)) := by
  refine Spec.intro hE (args := [vnum .u32 a, vnum .u32 b, vnum .u32 m]) F_modular_Add rfl rfl (Nat.le_of_ble_eq_true rfl) ?_
  have h1 := mx_lt hm
  have h2 := mx_pos m
  refine DWrap.eq (m := a) (by rw [IntKind.wrap_u64]; omega) ?_
  refine DWrap.eq (m := b) (by rw [IntKind.wrap_u64]; omega) ?_
  refine DWrap.eq (m := (a + b : Nat)) (by rw [IntKind.wrap_u64]; omega) ?_
  refine (modulus_any h m hm).mono ?_
  rintro _ _ ⟨rfl, rfl⟩
  refine ⟨by omega, ?_⟩
  have h3 := Nat.mod_lt (a + b) h2
  refine DWrap.eq (m := ((a + b) % mx m : Nat)) (by rw [IntKind.wrap_u32']; rw [Int.tmod_eq_emod_of_nonneg (by omega), ← Int.natCast_emod]; omega) ?_
  exact ⟨rfl, rfl⟩
theorem modMul_any (h : Heap) (a b m : Nat) (ha : a < 4294967296) (hb : b < 4294967296) (hm : m < 4294967296) : Spec E.P f_modular_Mul #[vnum .u32 a, vnum .u32 b, vnum .u32 m] h (fun v h' => h' = h ∧ v = vnum .u32 (a * b % mx m)) := by
  refine Spec.intro hE (args := [vnum .u32 a, vnum .u32 b, vnum .u32 m]) F_modular_Mul rfl rfl (Nat.le_of_ble_eq_true rfl) ?_
  have h1 := mx_lt hm
  have h2 := mx_pos m
  have hab : a * b ≤ 4294967295 * 4294967295 := Nat.mul_le_mul (by omega) (by omega)
  refine DWrap.eq (m := a) (by rw [IntKind.wrap_u64]; omega) ?_
  refine DWrap.eq (m := b) (by rw [IntKind.wrap_u64]; omega) ?_
  refine DWrap.eq (m := (a * b : Nat)) (by rw [IntKind.wrap_u64, ← Int.natCast_mul]; omega) ?_
  refine (modulus_any h m hm).mono ?_
  rintro _ _ ⟨rfl, rfl⟩
  refine ⟨by omega, ?_⟩
  have h3 := Nat.mod_lt (a * b) h2
  refine DWrap.eq (m := (a * b % mx m : Nat)) (by rw [IntKind.wrap_u32']; rw [Int.tmod_eq_emod_of_nonneg (by omega), ← Int.natCast_emod]; omega) ?_
  exact ⟨rfl, rfl⟩
theorem modNeg_any (h : Heap) (a m : Nat) (ha : a < 4294967296) (hm : m < 4294967296) : Spec E.P f_modular_Neg #[vnum .u32 a, vnum .u32 m] h (fun v h' => h' = h ∧ v = vnum .u32 ((mx m - a % mx m) % mx m)) := by
  refine Spec.intro hE (args := [vnum .u32 a, vnum .u32 m]) F_modular_Neg rfl rfl (Nat.le_of_ble_eq_true rfl) ?_
  have h1 := mx_lt hm
  have h2 := mx_pos m
  refine (modulus_any h m hm).mono ?_
  rintro _ _ ⟨rfl, rfl⟩
  refine DWrap.eq (m := a) (by rw [IntKind.wrap_u64]; omega) ?_
  refine ⟨by omega, ?_⟩
  have h3 := Nat.mod_lt a h2
  have e1 : Int.tmod (a : Int) (mx m : Int) = ((a % mx m : Nat) : Int) := by rw [Int.tmod_eq_emod_of_nonneg (by omega), ← Int.natCast_emod]
  rw [e1]
  refine DWrap.eq (m := (mx m - a % mx m : Nat)) (by rw [IntKind.wrap_u64]; omega) ?_
  refine ⟨by omega, ?_⟩
  have h4 := Nat.mod_lt (mx m - a % mx m) h2
  have e2 : Int.tmod ((mx m - a % mx m : Nat) : Int) (mx m : Int) = (((mx m - a % mx m) % mx m : Nat) : Int) := by rw [Int.tmod_eq_emod_of_nonneg (by omega), ← Int.natCast_emod]
  rw [e2]
  refine DWrap.eq (m := ((mx m - a % mx m) % mx m : Nat)) (by rw [IntKind.wrap_u32']; omega) ?_
  exact ⟨rfl, rfl⟩
theorem modSub_any (h : Heap) (a b m : Nat) (ha : a < 4294967296) (hb : b < 4294967296) (hm : m < 4294967296) : Spec E.P f_modular_Sub #[vnum .u32 a, vnum .u32 b, vnum .u32 m] h (fun v h' => h' = h ∧ v = vnum .u32 ((a + (mx m - b % mx m)) % mx m)) := by
  refine Spec.intro hE (args := [vnum .u32 a, vnum .u32 b, vnum .u32 m]) F_modular_Sub rfl rfl (Nat.le_of_ble_eq_true rfl) ?_
  have h1 := mx_lt hm
  have h2 := mx_pos m
  refine (modNeg_any h b m hb hm).mono ?_
  rintro _ _ ⟨rfl, rfl⟩
  have h4 := Nat.mod_lt (mx m - b % mx m) h2
  refine (modAdd_any _ a _ m ha (by omega) hm).mono ?_
  rintro _ _ ⟨rfl, rfl⟩
  refine ⟨rfl, ?_⟩
  rw [Nat.add_mod_mod]
end Go.Vc
