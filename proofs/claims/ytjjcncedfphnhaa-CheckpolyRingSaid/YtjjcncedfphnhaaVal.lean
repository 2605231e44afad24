/- The values that the program computes. -/
import Derived.Test.YtjjcncedfphnhaaDen
import Derived.Test.YtjjcncedfphnhaaLaw
namespace Go.Vc
open Go.Proofs

/-- a box with an integer -/
def IntBox (h : Heap) (b : Nat) (z : Int) : Prop := ∃ c1 c2, Whole h b t_integer_Int [c1, c2] ∧ IntAt h (.agg #[c1, c2]) z
theorem IntBox.ext {h h' : Heap} (x : Ext h h') {b : Nat} {z : Int} (i : IntBox h b z) : IntBox h' b z := by
  obtain ⟨c1, c2, hw, hi⟩ := i; exact ⟨c1, c2, hw.ext x, hi.ext x⟩
theorem IntBox.old {h h' : Heap} {B : Nat} (o : Old B h h') (u : U32 h h') {b : Nat} (hb : b < B) {z : Int} (i : IntBox h b z) : IntBox h' b z := by
  obtain ⟨c1, c2, hw, hi⟩ := i; exact ⟨c1, c2, o.at hw hb, hi.u32 u⟩
theorem DLoad.intBox {h : Heap} {b : Nat} {z : Int} {K : Value → Prop} (i : IntBox h b z) (hk : ∀ v, IntAt h v z → K v) : DLoad (some 2) b 0 h K := by
  obtain ⟨c1, c2, hw, hi⟩ := i
  exact DLoad.agg _ rfl hw.cellsAt (hk _ hi)
theorem DStore.intBox {h : Heap} {b : Nat} {v : Value} {z : Int} {K : Heap → Prop} {c : List Value} (hb : Whole h b t_integer_Int c) (hc : c.length = 2) (hv : IntAt h v z) (hk : ∀ o h', Upd h b o h' → U32 h h' → IntBox h' b z → K h') : DStore 2 b 0 v h K := by
  have hv0 := hv
  obtain ⟨a, cap, rfl, -⟩ := hv
  refine DStore.full (vs := [_, _]) hb rfl rfl hc rfl ?_
  intro h' hu
  have hu32 : U32 h h' := hu.u32 hb (by decide)
  exact hk _ h' hu hu32 ⟨_, _, hu.at_, hv0.u32 hu32⟩
theorem IntBox.whole {h : Heap} {b : Nat} {z : Int} (i : IntBox h b z) : ∃ c, Whole h b t_integer_Int c ∧ c.length = 2 := by
  obtain ⟨c1, c2, hw, hi⟩ := i; exact ⟨_, hw, rfl⟩

def intV (x : List Int) : List Value := x.map (Value.int .i64)
theorem intV_get {x : List Int} {k : Nat} (hk : k < x.length) : (intV x)[k]? = some (.int .i64 x[k]) := by simp [intV, hk]

theorem partE_le {e : List Nat} {B k n : Nat} (he : ∀ a ∈ e, a ≤ B) (hn : n ≤ B) : ∀ a ∈ (layE e k).set k n, a ≤ B := by
  intro a ha
  rcases List.mem_or_eq_of_mem_set ha with h | h
  · unfold layE at h
    rcases List.mem_append.1 h with h | h
    · exact he a (List.mem_of_mem_take h)
    · rw [List.mem_replicate] at h; omega
  · omega
theorem layE_set_zero {e : List Nat} (he : e.length = 4) {k : Nat} (hk : k < 4) : (layE e k).set k 0 = layE e k := by
  obtain ⟨a0, a1, a2, a3, rfl⟩ := four he
  match k, hk with
  | 0, _ => rfl
  | 1, _ => rfl
  | 2, _ => rfl
  | 3, _ => rfl
theorem layE_four {e : List Nat} (he : e.length = 4) : layE e 4 = e := by unfold layE; rw [List.take_of_length_le (by omega)]; simp
theorem monV_zeros (x : List Int) (n : Nat) : monV x (List.replicate n 0) = 1 := by
  induction n generalizing x with
  | zero => cases x <;> rfl
  | succ n ih =>
    cases x with
    | nil => rfl
    | cons a x => rw [List.replicate_succ]; simp only [monV, ih]; simp

set_option maxHeartbeats 1600000 in
theorem value_any (h : Heap) (v : Value) (f : Pol) (x : List Int) (hf : PolyAt h v f) (h4 : x.length = 4) (M B : Nat) (hM : 1 ≤ M) (hM2 : M < 1000000000) (hx : ∀ a ∈ x, a.natAbs ≤ M) (hfB : ExpB f B) (hB : B < 1000000) (hb : norm1 f * M ^ (B * 4) < big) (hlen : f.length < 10000000) :
    Spec E.P f_cylinderlaw54_value #[v, .agg (intV x).toArray] h (fun v' h' => Ext h h' ∧ IntAt h' v' (den x f)) := by
  obtain ⟨a, cap, rfl, hcap, hfA⟩ := hf
  refine Spec.intro hE (args := [_, _]) F_cylinderlaw54_value rfl rfl (Nat.le_of_ble_eq_true rfl) ?_
  refine DNew.intro ?_
  intro xb h1 hxb hx1 hs1 hg1
  refine DNew.intro ?_
  intro rb h2 hrb hx2 hs2 hg2
  refine (integer_Of_any h2 0 (by omega)).mono ?_
  rintro v3 h3 ⟨hx3, hi3⟩
  refine DNew.intro ?_
  intro vb h4' hvb hx4 hs4 hg4
  refine DStore.intBox (c := [_, _]) hg4 rfl (hi3.ext hx4) ?_
  intro o5 h5 hu5 hv5 hbox5
  have hsz3 := hx3.size
  have hold5 : Old h.size h h5 := (((((Old.rfl (B := h.size)).ext hx1 (Nat.le_refl _)).ext hx2 (Nat.le_refl _)).ext hx3 (Nat.le_refl _)).ext hx4 (Nat.le_refl _)).upd hu5 (by omega)
  have hwx : Whole h5 xb t_ar4_int (intV x) := hu5.at_ne (hx4.at (hx3.at (hx2.at hg1))) (by omega)
  have hwr : Whole h5 rb t_integer_Int [.bool false, .slice none 0 0] := hu5.at_ne (hx4.at (hx3.at hg2)) (by omega)
  have hpos : 1 ≤ M ^ (B * 4) := Nat.one_le_pow _ _ hM
  refine DLoop.intro hE (ι := Nat) (fun i => [(6, .int .i64 i), (0, .slice a f.length cap), (3, .pointer (some ⟨xb, 0, none⟩)), (4, .pointer (some ⟨rb, 0, none⟩)), (5, .pointer (some ⟨vb, 0, none⟩))])
    (fun i h' => Old h.size h h' ∧ i ≤ f.length ∧ Whole h' xb t_ar4_int (intV x) ∧ Whole h' rb t_integer_Int [.bool false, .slice none 0 0] ∧ IntBox h' vb (den x (f.take i)) ∧ vb < h'.size) (fun i => f.length - i) 0 rfl ⟨rfl, rfl, rfl, rfl, rfl, trivial⟩
    ⟨hold5, Nat.zero_le _, hwx, hwr, by simpa [den] using hbox5, lt_of_get (o := _) hu5.at_⟩ ?_
  rintro i h6 ⟨hold6, hi, hwx6, hwr6, hbx6, hvs6⟩
  refine bsp.dec (fun hlt => ?_) (fun hlt => ?_)
  · have hif : i < f.length := by omega
    obtain ⟨b, off, cs, cv, rfl, ht, hcs, hcv, hlv, hiv, hce, he4⟩ := hfA.form hif
    have hx6 : Ext h h6 := hold6.toExt
    have heB : ∀ n ∈ f[i].2, n ≤ B := hfB _ (List.getElem_mem hif)
    have hcb : f[i].1.natAbs * M ^ (B * 4) ≤ norm1 f * M ^ (B * 4) := Nat.mul_le_mul_right _ (norm1_mem (List.getElem_mem hif))
    have hbnd : ∀ p : List Nat, p.length = 4 → (∀ n ∈ p, n ≤ B) → (f[i].1 * monV x p).natAbs < big := fun p hp hpB => by
      have h1 := monV_le M hM B x p hx hpB
      rw [hp] at h1
      have h2 : (f[i].1 * monV x p).natAbs ≤ f[i].1.natAbs * M ^ (B * 4) := by rw [Int.natAbs_mul]; exact Nat.mul_le_mul_left _ h1
      omega
    refine DIdx.intro i rfl rfl hif ?_
    refine DLoad.agg cv hlv (hcv.ext hx6) ?_
    refine DNew.intro ?_
    intro tb h7 htb hx7 hs7 hg7
    refine DStore.intBox (c := [_, _]) hg7 rfl (hiv.ext (hx6.trans hx7)) ?_
    intro o8 h8 hu8 hv8 hbx8
    have hx68 : Ext h6 h8 := ((Old.rfl (B := h6.size).ext hx7 (Nat.le_refl _)).upd hu8 (by omega)).toExt
    have hz : monV x (layE f[i].2 0) = 1 := by unfold layE; simpa using monV_zeros x 4
    refine DLoop.intro hE (ι := Nat) (fun k => [(8, .int .i64 k), (7, .pointer (some ⟨tb, 0, none⟩)), (6, .int .i64 i), (0, .slice (some ⟨b, off, none⟩) f.length cap), (3, .pointer (some ⟨xb, 0, none⟩)), (4, .pointer (some ⟨rb, 0, none⟩)), (5, .pointer (some ⟨vb, 0, none⟩))])
      (fun k h' => Ext h6 h' ∧ k ≤ 4 ∧ IntBox h' tb (f[i].1 * monV x (layE f[i].2 k))) (fun k => 4 - k) 0 rfl ⟨rfl, rfl, rfl, rfl, rfl, rfl, rfl, trivial⟩ ⟨hx68, Nat.zero_le _, by rw [hz, Int.mul_one]; exact hbx8⟩ ?_
    rintro k h9 ⟨hx9, hk, hbx9⟩
    refine bsp.dec (fun hk4 => ?_) (fun hk4 => ?_)
    · have hk4' : k < 4 := by omega
      have hke : k < f[i].2.length := by omega
      have hkx : k < x.length := by omega
      have hll := layE_len he4 (k := k) (by omega)
      have hekB : f[i].2[k] ≤ B := heB _ (List.getElem_mem _)
      have hxk := hx _ (List.getElem_mem hkx)
      refine DLoop.intro hE (ι := Nat) (fun n => [(9, .int .i64 n), (8, .int .i64 k), (7, .pointer (some ⟨tb, 0, none⟩)), (6, .int .i64 i), (0, .slice (some ⟨b, off, none⟩) f.length cap), (3, .pointer (some ⟨xb, 0, none⟩)), (4, .pointer (some ⟨rb, 0, none⟩)), (5, .pointer (some ⟨vb, 0, none⟩))])
        (fun n h' => Ext h6 h' ∧ n ≤ f[i].2[k] ∧ IntBox h' tb (f[i].1 * monV x ((layE f[i].2 k).set k n))) (fun n => f[i].2[k] - n) 0 rfl ⟨rfl, rfl, rfl, rfl, rfl, rfl, rfl, rfl, trivial⟩ ⟨hx9, Nat.zero_le _, by rw [layE_set_zero he4 hk4']; exact hbx9⟩ ?_
      rintro n h10 ⟨hx10, hn, hbx10⟩
      have hx010 := hx6.trans hx10
      refine DIdx.intro i rfl rfl hif ?_
      refine DIdx.intro k rfl rfl hk4' ?_
      refine DLoad.scalar ((hce.ext hx010).get k _ (expV_get hke)) ?_
      refine bsp.dec (fun hn1 => ?_) (fun hn1 => ?_)
      · have hn1' : n < f[i].2[k] := by omega
        have hd10 : (digs (f[i].1 * monV x ((layE f[i].2 k).set k n)).natAbs).length ≤ 32 := digs_bound (hbnd _ (by simpa using hll) (partE_le heB (by omega)))
        have hdx : (digs (x[k]).natAbs).length ≤ 32 := digs_bound (by have : (1000000000 : Nat) < big := by decide
                                                                      omega)
        have hbx10' := hbx10
        obtain ⟨c1, c2, hw10, hi10⟩ := hbx10'
        have hwx10 := hwx6.ext hx10
        refine DDraw.intro hE (.take 0 (.take 1 (.take 2 (.take 3 (.one 4 (.one 5 (.one 6 .done))))))) (some 6) (Ext h10 ·) (by kernel_rfl) Ext.rfl ?_
        refine QLoad.agg [c1, c2] rfl (fun _ e => (hw10.ext e).cellsAt) ?_
        refine DIdx.intro k rfl rfl hk4' ?_
        refine QLoad.scalar (fun _ e => (hwx10.ext e).get _ (by rw [Nat.zero_add]; exact intV_get hkx)) ?_
        refine (integer_Of_any h10 x[k] (by omega)).mono ?_
        rintro v11 h11 ⟨hx11, hi11⟩
        refine ⟨hx11, ?_⟩
        refine (integer_Mul_any h11 _ _ _ _ (hi10.ext hx11) hi11 (by omega) (by omega)).mono ?_
        rintro v12 h12 ⟨hx12, hi12⟩
        refine ⟨hx11.trans hx12, ?_⟩
        rw [Int.mul_assoc, ← monV_set_succ x (layE f[i].2 k) k n (by omega) hkx] at hi12
        refine DStore.intBox (hw10.ext (hx11.trans hx12)) rfl hi12 ?_
        intro o13 h13 hu13 hv13 hbx13
        refine DWrap.is ((n + 1 : Nat) : Int) (by omega) (by omega) ?_
        refine ⟨n + 1, ⟨rfl, rfl, rfl, rfl, rfl, rfl, rfl, rfl, trivial⟩, ⟨?_, by omega, hbx13⟩, by omega⟩
        exact ((Old.rfl (B := h6.size).ext (hx10.trans (hx11.trans hx12)) (Nat.le_refl _)).upd hu13 (by omega)).toExt
      · obtain rfl : n = f[i].2[k] := by omega
        rw [layE_set he4 hk4'] at hbx10
        refine DWrap.is ((k + 1 : Nat) : Int) (by omega) (by omega) ?_
        exact ⟨k + 1, ⟨rfl, rfl, rfl, rfl, rfl, rfl, rfl, trivial⟩, ⟨hx10, by omega, hbx10⟩, by omega⟩
    · obtain rfl : k = 4 := by omega
      rw [layE_four he4] at hbx9
      have hbv := hbx6.ext hx9
      have hL : L4 f := fun t ht => by
        obtain ⟨j, hj, rfl⟩ := List.getElem_of_mem ht
        obtain ⟨_, _, _, _, _, _, _, _, _, _, _, h4⟩ := hfA.form hj
        exact h4
      have hdn : (digs (den x (f.take i)).natAbs).length ≤ 32 := digs_bound (by
        have h1 := den_le M hM B x hx (f.take i) (fun t ht => hL t (List.mem_of_mem_take ht)) (fun t ht => hfB t (List.mem_of_mem_take ht))
        have h2 : norm1 (f.take i) * M ^ (B * 4) ≤ norm1 f * M ^ (B * 4) := Nat.mul_le_mul_right _ (by
          have := norm1_append (f.take i) (f.drop i)
          rw [List.take_append_drop] at this; omega)
        omega)
      have hdt : (digs (f[i].1 * monV x f[i].2).natAbs).length ≤ 32 := digs_bound (hbnd _ he4 heB)
      refine DLoad.intBox hbv fun v10 hi10 => ?_
      refine DLoad.intBox hbx9 fun v11 hi11 => ?_
      refine (integer_Add_any h9 _ _ _ _ hi10 hi11 (by omega) (by omega)).mono ?_
      rintro v12 h12 ⟨hx12, hi12⟩
      obtain ⟨c, hwc, hlc⟩ := (hbv.ext hx12).whole
      refine DStore.intBox hwc hlc hi12 ?_
      intro o13 h13 hu13 hv13 hbx13
      refine DWrap.is ((i + 1 : Nat) : Int) (by omega) (by omega) ?_
      have hx612 := hx9.trans hx12
      have hxrb : xb ≠ vb := by omega
      have hrvb : rb ≠ vb := by have := hx2.size; omega
      refine ⟨i + 1, ⟨rfl, rfl, rfl, rfl, rfl, trivial⟩, ⟨?_, by omega, hu13.at_ne (hwx6.ext hx612) hxrb, hu13.at_ne (hwr6.ext hx612) hrvb, ?_, ?_⟩, by omega⟩
      · exact (hold6.ext hx612 (Nat.le_refl _)).upd hu13 (by omega)
      · rw [List.take_succ_eq_append_getElem hif, den_append]
        simpa [den] using hbx13
      · rw [hu13.size]; have := hx612.size; omega
  · obtain rfl : i = f.length := by omega
    rw [List.take_length] at hbx6
    refine DLoad.intBox hbx6 fun v7 hi7 => ?_
    have hi70 := hi7
    obtain ⟨a7, cap7, rfl, -⟩ := hi7
    refine DStore.result hwr6 (by decide) rfl rfl hold6.toExt (by have := hx1.size; omega) hi70 ?_
    intro h8 hx8 hi8 hw8
    exact DLoad.whole _ hw8 rfl ⟨hx8, hi8⟩
end Go.Vc
