/- Contracts of the functions on natural numbers: sums and differences. -/
import Derived.Test.YtjjcncedfphnhaaNat2
namespace Go.Vc
open Go.Proofs

abbrev vnum (k : IntKind) (d : Nat) : Value := .int k (d : Int)
/-- the block b holds just these numbers -/
def NumB (h : Heap) (b : Nat) (k : IntKind) (e : TypeId) (Z : List Nat) : Prop := h[b]? = some (.cells (Z.map (vnum k)).toArray e (0, 0))

theorem splice_set {α : Type} {Z : List Nat} {f : Nat → Value} {i v : Nat} (hi : i < Z.length) (_ : α) : splice (Z.map f) i [f v] = (Z.set i v).map f := by
  unfold splice
  rw [← List.map_take, ← List.map_drop, List.set_eq_take_append_cons_drop, if_pos hi]
  simp

theorem DStore.num {b off : Nat} (i : Nat) (ho : off = i) {k : IntKind} {e : TypeId} {h : Heap} {K : Heap → Prop} {Z : List Nat} {v : Nat} (hb : NumB h b k e Z) (hi : i < Z.length) (hk : ∀ h', Upd h b (.cells ((Z.set i v).map (vnum k)).toArray e (0, 0)) h' → NumB h' b k e (Z.set i v) → K h') : DStore 1 b off (.int k (v : Int)) h K := by
  subst ho
  refine DStore.intro (vs := [vnum k v]) hb rfl rfl (by rw [List.length_map]; exact hi) (by simp [Value.oneCell']) fun h' hu => ?_
  rw [splice_set hi ()] at hu
  exact hk h' hu hu.at_

theorem NumB.numsA {h : Heap} {b : Nat} {k : IntKind} {e : TypeId} {Z : List Nat} (hb : NumB h b k e Z) (he : k = .u32 → e = t_uint32 := by exact fun _ => rfl) : NumsA k h (some ⟨b, 0, none⟩) Z := NumsA.block hb he

theorem NumB.cell {h : Heap} {b : Nat} {k : IntKind} {e : TypeId} {Z : List Nat} (hb : NumB h b k e Z) {i : Nat} (hi : i < Z.length) : Vc.cell h b i = some (vnum k Z[i]) := by
  unfold Vc.cell; rw [hb]; simp [hi]

theorem pow_ge (i : Nat) : 1 ≤ 4294967296 ^ i := Nat.one_le_pow _ _ (by decide)

/-- one digit more of a sum -/
theorem sum_step {P s c c' v x y X Y S : Nat} (h1 : S + c * P = X + Y) (h2 : v + 4294967296 * c' = x + y + c) (hs : s = S + P * v) : s + c' * (P * 4294967296) = (X + P * x) + (Y + P * y) := by
  subst hs
  have : P * (v + 4294967296 * c') = P * (x + y + c) := by rw [h2]
  simp only [Nat.mul_add] at this ⊢
  rw [Nat.mul_comm c P] at h1
  have e : c' * (P * 4294967296) = P * (4294967296 * c') := by rw [Nat.mul_comm, Nat.mul_assoc]
  omega

theorem dval_set_take {Z : List Nat} {i v : Nat} (hi : i < Z.length) : dval ((Z.set i v).take (i + 1)) = dval (Z.take i) + 4294967296 ^ i * v := by
  rw [take_set_succ hi, dval_append, List.length_take, Nat.min_eq_left (Nat.le_of_lt hi)]
  simp [dval]

theorem Old.numsA {B : Nat} {k : IntKind} {h h' : Heap} (o : Old B h h') {a : Option Addr} {ds : List Nat} (hn : NumsA k h a ds) (hB : B = h.size) : NumsA k h' a ds := by
  subst hB; exact hn.ext o.toExt

set_option maxHeartbeats 800000 in
theorem Add_any (h : Heap) (v1 v2 : Value) (ds es : List Nat) (hd : Nums .u32 h v1 ds) (he : Nums .u32 h v2 es) (hdg : Dg ds) (heg : Dg es) (hl1 : ds.length < 100000000) (hl2 : es.length < 100000000) :
    Spec E.P f_natural_Add #[v1, v2] h (fun v h' => Ext h h' ∧ NatAt h' v (dval ds + dval es)) := by
  refine Spec.intro hE (args := [v1, v2]) F_natural_Add rfl rfl (Nat.le_of_ble_eq_true rfl) ?_
  refine (trim_nat h v1 ds hd hdg (by omega)).mono ?_
  rintro v1' h' ⟨rfl, ⟨a, cap, rfl, hcap, hA⟩, -⟩
  refine (trim_nat h' v2 es he heg (by omega)).mono ?_
  rintro v2' h' ⟨rfl, ⟨b, cap2, rfl, hcap2, hB⟩, -⟩
  have la : (digs (dval ds)).length < 100000000 := by rw [← tlen_eq hdg]; have := tlen_le ds ds.length; omega
  have lb : (digs (dval es)).length < 100000000 := by rw [← tlen_eq heg]; have := tlen_le es es.length; omega
  have gA := digs_dg (dval ds)
  have gB := digs_dg (dval es)
  have vA := dval_digs (dval ds)
  have vB := dval_digs (dval es)
  generalize digs (dval ds) = A at *
  generalize digs (dval es) = B at *
  generalize dval ds = x at *
  generalize dval es = y at *
  clear hd he hdg heg hl1 hl2
  refine DJoin.cut hE (ι := Option Addr × List Nat × Nat × Option Addr × List Nat × Nat) (fun q => [(0, .slice q.1 q.2.1.length q.2.2.1), (1, .slice q.2.2.2.1 q.2.2.2.2.1.length q.2.2.2.2.2)])
    (fun q h'' => h'' = h' ∧ NumsA .u32 h' q.1 q.2.1 ∧ NumsA .u32 h' q.2.2.2.1 q.2.2.2.2.1 ∧ Dg q.2.1 ∧ Dg q.2.2.2.2.1 ∧ dval q.2.1 + dval q.2.2.2.2.1 = x + y ∧ q.2.2.2.2.1.length ≤ q.2.1.length ∧ q.2.1.length < 100000000 ∧ q.2.1.length ≤ q.2.2.1 ∧ q.2.2.2.2.1.length ≤ q.2.2.2.2.2) rfl ?_ ?_
  · refine bsp.dec (fun hc => ?_) (fun hc => ?_)
    · exact ⟨(b, B, cap2, a, A, cap), ⟨rfl, rfl, trivial⟩, rfl, hB, hA, gB, gA, by dsimp only; omega, by dsimp only; omega, by dsimp only; omega, hcap2, hcap⟩
    · exact ⟨(a, A, cap, b, B, cap2), ⟨rfl, rfl, trivial⟩, rfl, hA, hB, gA, gB, by dsimp only; omega, by dsimp only; omega, by dsimp only; omega, hcap, hcap2⟩
  clear hA hB gA gB vA vB la lb hcap hcap2 A B a b cap cap2
  rintro ⟨a, A, cap, b, B, cap2⟩ _ ⟨rfl, hA, hB, gA, gB, hv, hba, hla, hcap, hcap2⟩
  dsimp only at hA hB gA gB hv hba hla hcap hcap2
  dsimp only
  rename Heap => h
  refine DNew.intro ?_
  intro cb h1 hcb hx1 hs1 hg1
  refine DWrap.is ((A.length + 1 : Nat) : Int) (by omega) (by omega) ?_
  refine DMake.intro (A.length + 1) (A.length + 1) rfl rfl (Nat.le_refl _) (by omega) (by omega) ?_
  intro zb h2 hzb hx2 hs2 hg2
  have hz0 : NumB h2 zb .u32 t_uint32 (List.replicate (A.length + 1) 0) := by
    unfold NumB; rw [hg2, show (vnum IntKind.u32) = (fun (d : Nat) => Value.int .u32 d) from rfl, ← map_replicate_zero]; rfl
  have hc0 : Cell1 h2 cb t_uint32 (.int .u32 (0 : Nat)) := hx2.at hg1
  have hne : cb ≠ zb := by omega
  have ho0 : Old h.size h h2 := (Old.rfl.ext hx1 (Nat.le_refl _)).ext hx2 (Nat.le_refl _)
  refine DLoop.intro hE (ι := Nat × Nat × List Nat) (fun q => [(29, .int .i64 q.1), (27, .slice b B.length cap2), (28, .int .i64 B.length), (7, .slice (some ⟨zb, 0, none⟩) (A.length + 1) (A.length + 1)), (6, .func (.func f_natural_Add_1) #[] #[.pointer (some ⟨cb, 0, none⟩)]), (5, .pointer (some ⟨cb, 0, none⟩)), (0, .slice a A.length cap), (1, .slice b B.length cap2)])
    (fun q hh => Old h.size h hh ∧ q.1 ≤ B.length ∧ q.2.1 ≤ 1 ∧ q.2.2.length = A.length + 1 ∧ Dg q.2.2 ∧ NumB hh zb .u32 t_uint32 q.2.2 ∧ Cell1 hh cb t_uint32 (vnum .u32 q.2.1) ∧
      dval (q.2.2.take q.1) + q.2.1 * 4294967296 ^ q.1 = dval (A.take q.1) + dval (B.take q.1)) (fun q => B.length - q.1) (0, 0, List.replicate (A.length + 1) 0) rfl ⟨rfl, rfl, rfl, rfl, rfl, rfl, rfl, rfl, trivial⟩
    ⟨ho0, Nat.zero_le _, Nat.zero_le _, by simp, Dg.zeros _, hz0, hc0, by simp [dval]⟩ ?_
  rintro ⟨i, c, Z⟩ hh ⟨ho, hi, hc1, hZl, hZg, hZ, hC, hsum⟩
  dsimp only at hi hc1 hZl hZg hZ hC hsum ⊢
  refine bsp.dec (fun hlt => ?_) (fun hlt => ?_)
  · have hiB : i < B.length := by omega
    have hiA : i < A.length := by omega
    obtain ⟨ba, oa, rfl, hca, -⟩ := hA (by intro e; subst e; simp at hiA)
    obtain ⟨bb, ob, rfl, hcb', -⟩ := hB (by intro e; subst e; simp at hiB)
    refine DIdx.intro i rfl rfl hiB ?_
    refine DLoad.scalar (ho.cell (hcb' i hiB) (cell_lt (hcb' i hiB))) ?_
    refine DIdx.intro i rfl rfl hiA ?_
    refine DLoad.scalar (ho.cell (hca i hiA) (cell_lt (hca i hiA))) ?_
    refine (addClosure hh A[i] B[i] c cb (gA.get hiA) (gB.get hiB) (by omega) hC).mono ?_
    rintro v h3 ⟨hu, rfl⟩
    refine DIdx.intro i rfl rfl (by omega) ?_
    have hZ3 : NumB h3 zb .u32 t_uint32 Z := hu.at_ne hZ (Ne.symm hne)
    refine DStore.num i (Nat.zero_add i) hZ3 (by omega) ?_
    intro h4 hu4 hZ4
    refine DWrap.is ((i + 1 : Nat) : Int) (by omega) (by omega) ?_
    refine ⟨(i + 1, (A[i] + B[i] + c) / 4294967296, Z.set i ((A[i] + B[i] + c) % 4294967296)), ⟨rfl, rfl, rfl, rfl, rfl, rfl, rfl, rfl, trivial⟩, ⟨(ho.upd hu (by omega)).upd hu4 (by omega), by dsimp only; omega, ?_, ?_, ?_, hZ4, ?_, ?_⟩, ?_⟩
    · have := gA.get hiA; have := gB.get hiB; dsimp only; omega
    · simp [hZl]
    · exact hZg.set (Nat.mod_lt _ (by decide))
    · exact hu4.at_ne hu.at_ hne
    · dsimp only
      rw [dval_set_take (by omega), dval_take_succ hiA, dval_take_succ hiB, Nat.pow_succ]
      exact sum_step hsum (Nat.mod_add_div _ _) rfl
    · dsimp only; omega
  · obtain rfl : i = B.length := by omega
    refine DLoop.intro hE (ι := Nat × Nat × List Nat) (fun q => [(10, .int .i64 q.1), (7, .slice (some ⟨zb, 0, none⟩) (A.length + 1) (A.length + 1)), (6, .func (.func f_natural_Add_1) #[] #[.pointer (some ⟨cb, 0, none⟩)]), (5, .pointer (some ⟨cb, 0, none⟩)), (0, .slice a A.length cap)])
      (fun q hh => Old h.size h hh ∧ q.1 ≤ A.length ∧ q.2.1 ≤ 1 ∧ q.2.2.length = A.length + 1 ∧ Dg q.2.2 ∧ NumB hh zb .u32 t_uint32 q.2.2 ∧ Cell1 hh cb t_uint32 (vnum .u32 q.2.1) ∧
        dval (q.2.2.take q.1) + q.2.1 * 4294967296 ^ q.1 = dval (A.take q.1) + dval B) (fun q => A.length - q.1) (B.length, c, Z) rfl ⟨rfl, rfl, rfl, rfl, rfl, trivial⟩
      ⟨ho, hba, hc1, hZl, hZg, hZ, hC, by dsimp only; rw [List.take_length] at hsum; exact hsum⟩ ?_
    clear hlt hsum hC hZ hZg hZl hc1 ho hi hh Z c
    rintro ⟨i, c, Z⟩ hh ⟨ho, hi, hc1, hZl, hZg, hZ, hC, hsum⟩
    dsimp only at hi hc1 hZl hZg hZ hC hsum ⊢
    refine bsp.dec (fun hlt => ?_) (fun hlt => ?_)
    · have hiA : i < A.length := by omega
      obtain ⟨ba, oa, rfl, hca, -⟩ := hA (by intro e; subst e; simp at hiA)
      refine DIdx.intro i rfl rfl hiA ?_
      refine DLoad.scalar (ho.cell (hca i hiA) (cell_lt (hca i hiA))) ?_
      refine (addClosure hh A[i] 0 c cb (gA.get hiA) (by omega) (by omega) hC).mono ?_
      rintro v h3 ⟨hu, rfl⟩
      refine DIdx.intro i rfl rfl (by omega) ?_
      have hZ3 : NumB h3 zb .u32 t_uint32 Z := hu.at_ne hZ (Ne.symm hne)
      refine DStore.num i (Nat.zero_add i) hZ3 (by omega) ?_
      intro h4 hu4 hZ4
      refine DWrap.is ((i + 1 : Nat) : Int) (by omega) (by omega) ?_
      refine ⟨(i + 1, (A[i] + 0 + c) / 4294967296, Z.set i ((A[i] + 0 + c) % 4294967296)), ⟨rfl, rfl, rfl, rfl, rfl, trivial⟩, ⟨(ho.upd hu (by omega)).upd hu4 (by omega), by dsimp only; omega, ?_, ?_, ?_, hZ4, ?_, ?_⟩, ?_⟩
      · have := gA.get hiA; dsimp only; omega
      · simp [hZl]
      · exact hZg.set (Nat.mod_lt _ (by decide))
      · exact hu4.at_ne hu.at_ hne
      · dsimp only
        rw [dval_set_take (by omega), dval_take_succ hiA, Nat.pow_succ]
        have := sum_step (x := A[i]) (y := 0) hsum (Nat.mod_add_div _ _) rfl
        simpa using this
      · dsimp only; omega
    · obtain rfl : i = A.length := by omega
      refine DLoad.scalar hC.get ?_
      refine DIdx.intro A.length rfl rfl (by omega) ?_
      refine DStore.num A.length (Nat.zero_add _) hZ (by omega) ?_
      intro h4 hu4 hZ4
      have hn4 : Nums .u32 h4 (.slice (some ⟨zb, 0, none⟩) (A.length + 1) (A.length + 1)) (Z.set A.length c) := ⟨some ⟨zb, 0, none⟩, A.length + 1, by simp [hZl], by simp [hZl], hZ4.numsA⟩
      refine (trim_nat h4 _ _ hn4 (hZg.set (by omega)) (by simp [hZl]; omega)).mono ?_
      rintro v' h5 ⟨rfl, hn5, _⟩
      refine ⟨(ho.upd hu4 (by omega)).toExt, ?_⟩
      have e : dval (Z.set A.length c) = x + y := by
        have h1 := dval_set_take (v := c) (show A.length < Z.length by omega)
        rw [List.take_of_length_le (by simp [hZl])] at h1
        rw [h1, Nat.mul_comm, hsum, List.take_length]
        exact hv
      rw [← e]; exact hn5

/-- one digit more of a difference -/
theorem sub_step {P s c c' v x y X Y S : Nat} (h1 : S + Y = X + c * P) (h2 : v + y + c = x + 4294967296 * c') (hs : s = S + P * v) : s + (Y + P * y) = (X + P * x) + c' * (P * 4294967296) := by
  subst hs
  have : P * (v + y + c) = P * (x + 4294967296 * c') := by rw [h2]
  simp only [Nat.mul_add] at this ⊢
  rw [Nat.mul_comm c P] at h1
  have e : c' * (P * 4294967296) = P * (4294967296 * c') := by rw [Nat.mul_comm, Nat.mul_assoc]
  omega

theorem sub_digit {x y c : Nat} (hx : x < 4294967296) (hy : y < 4294967296) (hc : c ≤ 1) : (x + 8589934592 - y - c) % 4294967296 + y + c = x + 4294967296 * (if x < y + c then 1 else 0) := by
  split <;> omega

set_option maxHeartbeats 800000 in
theorem Sub_any (h : Heap) (v1 v2 : Value) (ds es : List Nat) (hd : Nums .u32 h v1 ds) (he : Nums .u32 h v2 es) (hdg : Dg ds) (heg : Dg es) (hl1 : ds.length < 100000000) (hl2 : es.length < 100000000) (hle : dval es ≤ dval ds) :
    Spec E.P f_natural_Sub #[v1, v2] h (fun v h' => Ext h h' ∧ ∃ v', v = .tuple #[v', .bool true] ∧ NatAt h' v' (dval ds - dval es)) := by
  refine Spec.intro hE (args := [v1, v2]) F_natural_Sub rfl rfl (Nat.le_of_ble_eq_true rfl) ?_
  refine (trim_nat h v1 ds hd hdg (by omega)).mono ?_
  rintro v1' h' ⟨rfl, ⟨a, cap, rfl, hcap, hA⟩, -⟩
  refine (trim_nat h' v2 es he heg (by omega)).mono ?_
  rintro v2' h' ⟨rfl, ⟨b, cap2, rfl, hcap2, hB⟩, -⟩
  have la : (digs (dval ds)).length < 100000000 := by rw [← tlen_eq hdg]; have := tlen_le ds ds.length; omega
  have lb : (digs (dval es)).length < 100000000 := by rw [← tlen_eq heg]; have := tlen_le es es.length; omega
  have gA := digs_dg (dval ds)
  have gB := digs_dg (dval es)
  have vA := dval_digs (dval ds)
  have vB := dval_digs (dval es)
  have k1 := @digs_len_lt (dval ds) (dval es)
  generalize digs (dval ds) = A at *
  generalize digs (dval es) = B at *
  generalize dval ds = x at *
  generalize dval es = y at *
  clear hd he hdg heg hl1 hl2
  have hba : B.length ≤ A.length := by
    rcases Nat.lt_or_ge A.length B.length with h | h
    · have := k1 h; omega
    · exact h
  refine (Cmp_any h' _ _ A B ⟨a, cap, rfl, hcap, hA⟩ ⟨b, cap2, rfl, hcap2, hB⟩ gA gB (by omega) (by omega)).mono ?_
  rintro v h' ⟨rfl, rfl⟩
  refine bsp.dec (fun hc => ?_) (fun _ => ?_)
  · exfalso
    unfold cmpN at hc
    rw [if_neg (by omega)] at hc
    split at hc <;> omega
  rename Heap => h
  refine DNew.intro ?_
  intro cb h1 hcb hx1 hs1 hg1
  refine DMake.intro A.length A.length rfl rfl (Nat.le_refl _) (by omega) (by omega) ?_
  intro zb h2 hzb hx2 hs2 hg2
  have hz0 : NumB h2 zb .u32 t_uint32 (List.replicate A.length 0) := by
    unfold NumB; rw [hg2, show (vnum IntKind.u32) = (fun (d : Nat) => Value.int .u32 d) from rfl, ← map_replicate_zero]; rfl
  have hc0 : Cell1 h2 cb t_uint32 (.int .u32 (0 : Nat)) := hx2.at hg1
  have hne : cb ≠ zb := by omega
  have ho0 : Old h.size h h2 := (Old.rfl.ext hx1 (Nat.le_refl _)).ext hx2 (Nat.le_refl _)
  refine DLoop.intro hE (ι := Nat × Nat × List Nat) (fun q => [(26, .int .i64 q.1), (24, .slice b B.length cap2), (25, .int .i64 B.length), (8, .slice (some ⟨zb, 0, none⟩) A.length A.length), (7, .func (.func f_natural_Sub_1) #[] #[.pointer (some ⟨cb, 0, none⟩)]), (0, .slice a A.length cap), (1, .slice b B.length cap2)])
    (fun q hh => Old h.size h hh ∧ q.1 ≤ B.length ∧ q.2.1 ≤ 1 ∧ q.2.2.length = A.length ∧ Dg q.2.2 ∧ NumB hh zb .u32 t_uint32 q.2.2 ∧ Cell1 hh cb t_uint32 (vnum .u32 q.2.1) ∧
      dval (q.2.2.take q.1) + dval (B.take q.1) = dval (A.take q.1) + q.2.1 * 4294967296 ^ q.1) (fun q => B.length - q.1) (0, 0, List.replicate A.length 0) rfl ⟨rfl, rfl, rfl, rfl, rfl, rfl, rfl, trivial⟩
    ⟨ho0, Nat.zero_le _, Nat.zero_le _, by simp, Dg.zeros _, hz0, hc0, by simp [dval]⟩ ?_
  rintro ⟨i, c, Z⟩ hh ⟨ho, hi, hc1, hZl, hZg, hZ, hC, hsum⟩
  dsimp only at hi hc1 hZl hZg hZ hC hsum ⊢
  refine bsp.dec (fun hlt => ?_) (fun hlt => ?_)
  · have hiB : i < B.length := by omega
    have hiA : i < A.length := by omega
    obtain ⟨ba, oa, rfl, hca, -⟩ := hA (by intro e; subst e; simp at hiA)
    obtain ⟨bb, ob, rfl, hcb', -⟩ := hB (by intro e; subst e; simp at hiB)
    refine DIdx.intro i rfl rfl hiB ?_
    refine DLoad.scalar (ho.cell (hcb' i hiB) (cell_lt (hcb' i hiB))) ?_
    refine DIdx.intro i rfl rfl hiA ?_
    refine DLoad.scalar (ho.cell (hca i hiA) (cell_lt (hca i hiA))) ?_
    refine (subClosure hh A[i] B[i] c cb (gA.get hiA) (gB.get hiB) hc1 hC).mono ?_
    rintro v h3 ⟨hu, rfl⟩
    refine DIdx.intro i rfl rfl (by omega) ?_
    have hZ3 : NumB h3 zb .u32 t_uint32 Z := hu.at_ne hZ (Ne.symm hne)
    refine DStore.num i (Nat.zero_add i) hZ3 (by omega) ?_
    intro h4 hu4 hZ4
    refine DWrap.is ((i + 1 : Nat) : Int) (by omega) (by omega) ?_
    refine ⟨(i + 1, (if A[i] < B[i] + c then 1 else 0), Z.set i ((A[i] + 8589934592 - B[i] - c) % 4294967296)), ⟨rfl, rfl, rfl, rfl, rfl, rfl, rfl, trivial⟩, ⟨(ho.upd hu (by omega)).upd hu4 (by omega), by dsimp only; omega, ?_, ?_, ?_, hZ4, ?_, ?_⟩, ?_⟩
    · dsimp only; split <;> omega
    · simp [hZl]
    · exact hZg.set (Nat.mod_lt _ (by decide))
    · exact hu4.at_ne hu.at_ hne
    · dsimp only
      rw [dval_set_take (by omega), dval_take_succ hiA, dval_take_succ hiB, Nat.pow_succ]
      exact sub_step hsum (sub_digit (gA.get hiA) (gB.get hiB) hc1) rfl
    · dsimp only; omega
  · obtain rfl : i = B.length := by omega
    refine DLoop.intro hE (ι := Nat × Nat × List Nat) (fun q => [(11, .int .i64 q.1), (8, .slice (some ⟨zb, 0, none⟩) A.length A.length), (7, .func (.func f_natural_Sub_1) #[] #[.pointer (some ⟨cb, 0, none⟩)]), (0, .slice a A.length cap)])
      (fun q hh => Old h.size h hh ∧ q.1 ≤ A.length ∧ q.2.1 ≤ 1 ∧ q.2.2.length = A.length ∧ Dg q.2.2 ∧ NumB hh zb .u32 t_uint32 q.2.2 ∧ Cell1 hh cb t_uint32 (vnum .u32 q.2.1) ∧
        dval (q.2.2.take q.1) + dval B = dval (A.take q.1) + q.2.1 * 4294967296 ^ q.1) (fun q => A.length - q.1) (B.length, c, Z) rfl ⟨rfl, rfl, rfl, rfl, trivial⟩
      ⟨ho, hba, hc1, hZl, hZg, hZ, hC, by dsimp only; rw [List.take_length] at hsum; exact hsum⟩ ?_
    clear hlt hsum hC hZ hZg hZl hc1 ho hi hh Z c
    rintro ⟨i, c, Z⟩ hh ⟨ho, hi, hc1, hZl, hZg, hZ, hC, hsum⟩
    dsimp only at hi hc1 hZl hZg hZ hC hsum ⊢
    refine bsp.dec (fun hlt => ?_) (fun hlt => ?_)
    · have hiA : i < A.length := by omega
      obtain ⟨ba, oa, rfl, hca, -⟩ := hA (by intro e; subst e; simp at hiA)
      refine DIdx.intro i rfl rfl hiA ?_
      refine DLoad.scalar (ho.cell (hca i hiA) (cell_lt (hca i hiA))) ?_
      refine (subClosure hh A[i] 0 c cb (gA.get hiA) (by omega) hc1 hC).mono ?_
      rintro v h3 ⟨hu, rfl⟩
      refine DIdx.intro i rfl rfl (by omega) ?_
      have hZ3 : NumB h3 zb .u32 t_uint32 Z := hu.at_ne hZ (Ne.symm hne)
      refine DStore.num i (Nat.zero_add i) hZ3 (by omega) ?_
      intro h4 hu4 hZ4
      refine DWrap.is ((i + 1 : Nat) : Int) (by omega) (by omega) ?_
      refine ⟨(i + 1, (if A[i] < 0 + c then 1 else 0), Z.set i ((A[i] + 8589934592 - 0 - c) % 4294967296)), ⟨rfl, rfl, rfl, rfl, trivial⟩, ⟨(ho.upd hu (by omega)).upd hu4 (by omega), by dsimp only; omega, ?_, ?_, ?_, hZ4, ?_, ?_⟩, ?_⟩
      · dsimp only; split <;> omega
      · simp [hZl]
      · exact hZg.set (Nat.mod_lt _ (by decide))
      · exact hu4.at_ne hu.at_ hne
      · dsimp only
        rw [dval_set_take (by omega), dval_take_succ hiA, Nat.pow_succ]
        have := sub_step hsum (sub_digit (y := 0) (gA.get hiA) (by omega) hc1) rfl
        simpa using this
      · dsimp only; omega
    · obtain rfl : i = A.length := by omega
      have hn4 : Nums .u32 hh (.slice (some ⟨zb, 0, none⟩) A.length A.length) Z := ⟨some ⟨zb, 0, none⟩, A.length, by simp [hZl], by simp [hZl], hZ.numsA⟩
      refine (trim_nat hh _ _ hn4 hZg (by omega)).mono ?_
      rintro v' h5 ⟨rfl, hn5, _⟩
      refine ⟨ho.toExt, v', rfl, ?_⟩
      have e : dval Z = x - y := by
        rw [List.take_of_length_le (by omega), List.take_length] at hsum
        have h1 := dval_lt hZg
        rw [hZl] at h1
        have : c = 0 := by
          rcases Nat.eq_zero_or_pos c with h | h
          · exact h
          · exfalso
            have hc : c = 1 := by omega
            subst hc
            omega
        subst this
        omega
      rw [← e]; exact hn5
end Go.Vc
