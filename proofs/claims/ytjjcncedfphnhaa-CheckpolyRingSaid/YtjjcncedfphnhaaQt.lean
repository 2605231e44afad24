/- checkpoly.quotient: the quotient of two terms. -/
import Derived.Test.YtjjcncedfphnhaaQx
namespace Go.Vc
open Go.Proofs

abbrev subE (a b : List Nat) : List Nat := List.zipWith (· - ·) a b
/-- the exponents where the first k have been subtracted -/
def midS (a b : List Nat) (k : Nat) : List Nat := (subE a b).take k ++ a.drop k
theorem midS_len {a b : List Nat} (ha : a.length = 4) (hb : b.length = 4) {k : Nat} (hk : k ≤ 4) : (midS a b k).length = 4 := by
  simp [midS, ha, hb]; omega
theorem midS_get {a b : List Nat} (ha : a.length = 4) (hb : b.length = 4) {k : Nat} (hk : k < 4) : (midS a b k)[k]'(by rw [midS_len ha hb (by omega)]; exact hk) = a[k]'(by omega) := by
  unfold midS
  rw [List.getElem_append_right (by simp; omega)]
  simp [ha, hb, show min k 4 = k by omega]
theorem midS_set {a b : List Nat} (ha : a.length = 4) (hb : b.length = 4) {k : Nat} (hk : k < 4) : (midS a b k).set k (a[k]'(by omega) - b[k]'(by omega)) = midS a b (k + 1) := by
  obtain ⟨a0, a1, a2, a3, rfl⟩ := four ha
  obtain ⟨b0, b1, b2, b3, rfl⟩ := four hb
  match k, hk with
  | 0, _ => rfl
  | 1, _ => rfl
  | 2, _ => rfl
  | 3, _ => rfl
theorem midS_end {a b : List Nat} (ha : a.length = 4) (hb : b.length = 4) : midS a b 4 = subE a b := by
  obtain ⟨a0, a1, a2, a3, rfl⟩ := four ha
  obtain ⟨b0, b1, b2, b3, rfl⟩ := four hb
  rfl
/-- every exponent of b is at most that of a, in the first k -/
def LeE (a b : List Nat) (k : Nat) : Prop := ∀ j, j < k → ∀ (h1 : j < a.length) (h2 : j < b.length), b[j] ≤ a[j]
theorem addE_subE {a b : List Nat} (ha : a.length = 4) (hb : b.length = 4) (h : LeE a b 4) : addE (subE a b) b = a := by
  obtain ⟨a0, a1, a2, a3, rfl⟩ := four ha
  obtain ⟨b0, b1, b2, b3, rfl⟩ := four hb
  have h0 := h 0 (by decide) (by simp) (by simp)
  have h1 := h 1 (by decide) (by simp) (by simp)
  have h2 := h 2 (by decide) (by simp) (by simp)
  have h3 := h 3 (by decide) (by simp) (by simp)
  simp only [List.getElem_cons_zero, List.getElem_cons_succ] at h0 h1 h2 h3
  simp only [addE, subE, List.zipWith_cons_cons, List.zipWith_nil_left, List.cons.injEq, and_true]
  omega
theorem addE_LeE {u b : List Nat} : LeE (addE u b) b 4 := by
  intro j hj h1 h2
  simp only [addE, List.getElem_zipWith]; omega

/-- what quotient answers -/
def QuotT (s t : Term1) (u : Term1) (ok : Bool) : Prop := (ok = true → s = tmul u t) ∧ (ok = false → ∀ w : Term1, w.2.length = 4 → s ≠ tmul w t)

set_option maxHeartbeats 3200000 in
theorem quotient_any (h : Heap) (us bs : List Value) (s t : Term1) (hs : TermAt h us s) (ht : TermAt h bs t) (hla : (digs s.1.natAbs).length < 10000000) (hy0 : t.1 ≠ 0) (hy1 : t.1.natAbs < 4294967296) (B : Nat) (hB : B ≤ 4611686018427387903) (hsB : ∀ x ∈ s.2, x ≤ B) (htB : ∀ x ∈ t.2, x ≤ B) :
    Spec E.P f_checkpoly_quotient #[.agg us.toArray, .agg bs.toArray] h (fun v' h' => Ext h h' ∧ ∃ cs u ok, v' = .tuple #[.agg cs.toArray, .bool ok] ∧ TermAt h' cs u ∧ QuotT s t u ok) := by
  refine Spec.intro hE (args := [_, _]) F_checkpoly_quotient rfl rfl (Nat.le_of_ble_eq_true rfl) ?_
  refine DNew.intro ?_
  intro b1 h1 hb1 hx1 hs1 hg1
  refine DNew.intro ?_
  intro b2 h2 hb2 hx2 hs2 hg2
  refine DNew.intro ?_
  intro cb h3 hcb hx3 hs3 hg3
  have w1 : Whole h3 b1 t_checkpoly_Term us := hx3.at (hx2.at hg1)
  have w2 : Whole h3 b2 t_checkpoly_Term bs := hx3.at hg2
  have hx03 : Ext h h3 := hx1.trans (hx2.trans hx3)
  have hs3' := hs.ext hx03
  have ht3 := ht.ext hx03
  obtain ⟨cv1, hcv1, hlv1, hiv1⟩ := hs3'.coef w1.cellsAt
  obtain ⟨cv2, hcv2, hlv2, hiv2⟩ := ht3.coef w2.cellsAt
  refine DLoad.agg cv1 hlv1 hcv1 ?_
  refine DLoad.agg cv2 hlv2 hcv2 ?_
  refine (divExact_any h3 _ _ s.1 t.1 hiv1 hiv2 hla hy0 hy1).mono ?_
  rintro _ h4 ⟨hx4, c, z, e, rfl, hc, hex⟩
  refine DNew.intro ?_
  intro qb h5 hqb hx5 hs5 hg5
  refine DStore.intBox hg5 rfl (hc.ext hx5) ?_
  intro o6 h6 hu6 hv6 hbq
  have z1 := hx1.size
  have z2 := hx2.size
  have z3 := hx3.size
  have z4 := hx4.size
  have z5 := hx5.size
  have hx05 : Ext h h5 := hx03.trans (hx4.trans hx5)
  have o06 : Old h.size h h6 := ((Old.rfl (B := h.size)).ext hx05 (Nat.le_refl _)).upd hu6 (by omega)
  have wc6 : Whole h6 cb t_checkpoly_Term _ := hu6.at_ne ((hx4.trans hx5).at hg3) (by omega)
  rcases hex with ⟨rfl, hze⟩ | ⟨rfl, hnd⟩
  · have w16 := hu6.at_ne ((hx4.trans hx5).at w1) (by omega)
    have w26 := hu6.at_ne ((hx4.trans hx5).at w2) (by omega)
    have hl4 := hs.1
    have htl := ht.1
    have hiu : IntAt h6 (.agg cv1.toArray) s.1 := (hiv1.ext (hx4.trans hx5)).u32 hv6
    have ht6 : TermAt h6 bs t := (ht.ext hx05).u32 hv6
    refine DLoad.agg (expV t.2) (by rw [expV_len]; exact htl) (ht6.exps (h' := h6) (Whole.cellsAt w26)) ?_
    obtain ⟨-, c1, c2, rfl, -⟩ := hs
    refine DLoop.intro hE (ι := Nat) (fun k => [(23, .int .i64 k), (22, .agg (expV t.2).toArray), (2, .pointer (some ⟨b1, 0, none⟩)), (4, .pointer (some ⟨cb, 0, none⟩)), (6, .pointer (some ⟨qb, 0, none⟩))])
      (fun k h' => Old h.size h h' ∧ IntBox h' qb z ∧ k ≤ 4 ∧ Whole h' b1 t_checkpoly_Term (c1 :: c2 :: expV (midS s.2 t.2 k)) ∧ Whole h' cb t_checkpoly_Term [.bool false, .slice none 0 0, .int .i64 (0 : Nat), .int .i64 (0 : Nat), .int .i64 (0 : Nat), .int .i64 (0 : Nat)] ∧ LeE s.2 t.2 k) (fun k => 4 - k) 0 rfl ⟨rfl, rfl, rfl, rfl, rfl, trivial⟩ ⟨o06, hbq, Nat.zero_le _, w16, wc6, fun j hj => absurd hj (Nat.not_lt_zero _)⟩ ?_
    rintro k h7 ⟨ho7, hbq7, hk, hw7, hc7, hle⟩
    refine bsp.dec (fun hlt => ?_) (fun hlt => ?_)
    · have hk4 : k < 4 := by omega
      have hml := midS_len hl4 htl (k := k) (by omega)
      have hks : k < s.2.length := by omega
      have hkt : k < t.2.length := by omega
      have hbk1 : s.2[k] ≤ B := hsB _ (List.getElem_mem _)
      have hbk2 : t.2[k] ≤ B := htB _ (List.getElem_mem _)
      have hcell : cell h7 b1 (0 + 2 + k) = some (.int .i64 (s.2[k] : Nat)) := by
        refine hw7.get _ ?_
        rw [Nat.zero_add, Nat.add_comm 2 k]
        simp only [List.getElem?_cons_succ]
        rw [expV_get (by omega), midS_get hl4 htl hk4]
      refine index_run t.2 k htl hk4 ?_
      refine DIdx.intro k rfl rfl hk4 ?_
      refine DLoad.scalar hcell ?_
      refine bsp.dec (fun hbad => ?_) (fun hok => ?_)
      · refine DPure.build [.bool false, .slice none 0 0, .int .i64 (0 : Nat), .int .i64 (0 : Nat), .int .i64 (0 : Nat), .int .i64 (0 : Nat)] (by kernel_rfl) ?_
        refine DStore.full hc7 rfl rfl rfl rfl ?_
        intro h8 hu8
        have w8 : Whole h8 cb t_checkpoly_Term _ := hu8.at_
        refine DLoad.whole _ w8 rfl ?_
        refine ⟨(ho7.upd hu8 (by omega)).toExt, _, (0, [0, 0, 0, 0]), false, rfl, ⟨rfl, _, _, rfl, IntAt.zero _⟩, ⟨fun hc => (by cases hc), fun _ w _ he => ?_⟩⟩
        have hle2 := addE_LeE (u := w.2) (b := t.2) k hk4
        have e2 : s.2 = addE w.2 t.2 := by rw [he]; rfl
        have := hle2 (by rw [← e2]; exact hks) hkt
        have e3 : (addE w.2 t.2)[k]'(by rw [← e2]; exact hks) = s.2[k] := by simp only [e2]
        omega
      · have hge : t.2[k] ≤ s.2[k] := by omega
        refine DIdx.intro k rfl rfl hk4 ?_
        refine DLoad.scalar hcell ?_
        refine DWrap.is ((s.2[k] - t.2[k] : Nat) : Int) (by omega) (by omega) ?_
        refine DIdx.intro k rfl rfl hk4 ?_
        refine DStore.part (vs := [.int .i64 ((s.2[k] - t.2[k] : Nat) : Int)]) (c1 :: c2 :: expV (midS s.2 t.2 (k + 1))) hw7 rfl rfl (by simp [expV_len, hml]; omega) rfl ?_ ?_
        · rw [Nat.zero_add, splice_exp (by omega), midS_set hl4 htl hk4]
        · intro h8 hu8 hw8
          refine DWrap.is ((k + 1 : Nat) : Int) (by omega) (by omega) ?_
          have hv8 : U32 h7 h8 := hu8.u32 hw7 (by decide)
          refine ⟨k + 1, ⟨rfl, rfl, rfl, rfl, rfl, trivial⟩, ⟨ho7.upd hu8 (by omega), ?_, by omega, hw8, hu8.at_ne hc7 (by omega), ?_⟩, by omega⟩
          · obtain ⟨d1, d2, hw, hi⟩ := hbq7
            exact ⟨d1, d2, hu8.at_ne hw (by omega), hi.u32 hv8⟩
          · intro j hj h1 h2
            rcases Nat.lt_or_ge j k with hjk | hjk
            · exact hle j hjk h1 h2
            · obtain rfl : j = k := by omega
              exact hge
    · obtain rfl : k = 4 := by omega
      rw [midS_end hl4 htl] at hw7
      refine DLoad.intBox hbq7 fun vq hvq => ?_
      obtain ⟨d1, d2, rfl, hdn⟩ := id hvq
      have hl4' : (subE s.2 t.2).length = 4 := by simp [hl4, htl]
      have hsub : CellsAt h7 b1 (0 + 2) (expV (subE s.2 t.2)) := by
        have h1 := hw7.cellsAt.sub 2 4
        have h2 : List.take 4 (List.drop 2 (c1 :: c2 :: expV (subE s.2 t.2))) = expV (subE s.2 t.2) := by
          show List.take 4 (expV (subE s.2 t.2)) = _
          exact List.take_of_length_le (by rw [expV_len]; omega)
        rwa [h2] at h1
      refine DLoad.agg (expV (subE s.2 t.2)) (by rw [expV_len]; exact hl4') hsub ?_
      obtain ⟨e0, e1, e2, e3, he⟩ := four hl4'
      rw [he]
      refine DPure.build [.bool (decide (z < 0)), .slice d1 (digs z.natAbs).length d2, .int .i64 (e0 : Nat), .int .i64 (e1 : Nat), .int .i64 (e2 : Nat), .int .i64 (e3 : Nat)] (by kernel_rfl) ?_
      refine DStore.full hc7 rfl rfl rfl rfl ?_
      intro h8 hu8
      have w8 : Whole h8 cb t_checkpoly_Term _ := hu8.at_
      have hv8 : U32 h7 h8 := hu8.u32 hc7 (by decide)
      refine DLoad.whole _ w8 rfl ?_
      refine ⟨(ho7.upd hu8 (by omega)).toExt, _, (z, [e0, e1, e2, e3]), true, rfl, ⟨rfl, _, _, rfl, hvq.u32 hv8⟩, ⟨fun _ => ?_, fun hc => (by cases hc)⟩⟩
      show s = (z * t.1, addE [e0, e1, e2, e3] t.2)
      rw [← he, addE_subE hl4 htl hle, ← hze]
  · refine DPure.build [.bool false, .slice none 0 0, .int .i64 (0 : Nat), .int .i64 (0 : Nat), .int .i64 (0 : Nat), .int .i64 (0 : Nat)] (by kernel_rfl) ?_
    refine DStore.full wc6 rfl rfl rfl rfl ?_
    intro h7 hu7
    have w7 : Whole h7 cb t_checkpoly_Term _ := hu7.at_
    refine DLoad.whole _ w7 rfl ?_
    refine ⟨(o06.upd hu7 (by omega)).toExt, _, (0, [0, 0, 0, 0]), false, rfl, ⟨rfl, _, _, rfl, IntAt.zero _⟩, ⟨fun hc => (by cases hc), fun _ w _ he => hnd ?_⟩⟩
    rw [he]; exact ⟨w.1, by rw [Int.mul_comm]; rfl⟩
end Go.Vc
