/- wide, At. -/
import Derived.Test.YtjjcncedfphnhaaCan
namespace Go.Vc
open Go.Proofs

def i8V (x : List Int) : List Value := x.map (Value.int .i8)

theorem i8_tmod {a : Int} (_ : -128 ≤ a ∧ a ≤ 127) : -6 ≤ a.tmod 7 ∧ a.tmod 7 ≤ 6 := by
  have := Int.tmod_lt_of_pos a (b := 7) (by decide)
  have h2 := Int.tmod_lt_of_pos (-a) (b := 7) (by decide)
  rw [Int.neg_tmod] at h2
  omega

theorem wide_any (h : Heap) (a0 a1 a2 a3 : Int) (h0 : -128 ≤ a0 ∧ a0 ≤ 127) (h1 : -128 ≤ a1 ∧ a1 ≤ 127) (h2 : -128 ≤ a2 ∧ a2 ≤ 127) (h3 : -128 ≤ a3 ∧ a3 ≤ 127) :
    Spec E.P f_cylinderlaw54_wide #[.agg #[.int .i8 a0, .int .i8 a1, .int .i8 a2, .int .i8 a3]] h (fun v' h' => Ext h h' ∧ v' = .agg (intV [a0.tmod 7, a1.tmod 7, a2.tmod 7, a3.tmod 7]).toArray) := by
  have k0 := i8_tmod h0
  have k1 := i8_tmod h1
  have k2 := i8_tmod h2
  have k3 := i8_tmod h3
  refine Spec.intro hE (args := [_]) F_cylinderlaw54_wide rfl rfl (Nat.le_of_ble_eq_true rfl) ?_
  refine DNew.intro ?_
  intro xb g1 hxb hx1 hs1 hg1
  refine DNew.intro ?_
  intro rb g2 hrb hx2 hs2 hg2
  have hw : Whole g2 xb t_ar4_int8 [.int .i8 a0, .int .i8 a1, .int .i8 a2, .int .i8 a3] := hx2.at hg1
  refine DIdx.intro 0 rfl rfl (by decide) ?_
  refine DLoad.scalar (hw.get 0 rfl) ?_
  refine ⟨by decide, ?_⟩
  refine DWrap.is (a0.tmod 7) rfl (by omega) ?_
  refine DIdx.intro 1 rfl rfl (by decide) ?_
  refine DLoad.scalar (hw.get 1 rfl) ?_
  refine ⟨by decide, ?_⟩
  refine DWrap.is (a1.tmod 7) rfl (by omega) ?_
  refine DIdx.intro 2 rfl rfl (by decide) ?_
  refine DLoad.scalar (hw.get 2 rfl) ?_
  refine ⟨by decide, ?_⟩
  refine DWrap.is (a2.tmod 7) rfl (by omega) ?_
  refine DIdx.intro 3 rfl rfl (by decide) ?_
  refine DLoad.scalar (hw.get 3 rfl) ?_
  refine ⟨by decide, ?_⟩
  refine DWrap.is (a3.tmod 7) rfl (by omega) ?_
  refine DPure.build (intV [a0.tmod 7, a1.tmod 7, a2.tmod 7, a3.tmod 7]) (by kernel_rfl) ?_
  refine DStore.full (vs := intV [a0.tmod 7, a1.tmod 7, a2.tmod 7, a3.tmod 7]) hg2 rfl rfl rfl rfl ?_
  intro g3 hu3
  refine DLoad.whole _ hu3.at_ rfl ⟨?_, rfl⟩
  exact ((Old.rfl (B := h.size).ext (hx1.trans hx2) (Nat.le_refl _)).upd hu3 (by have := hx1.size; omega)).toExt

set_option maxHeartbeats 1600000 in
theorem At_any (h : Heap) (v : Value) (f : Pol) (x : List Int) (hf : MonosAt h v f) (h4 : x.length = 4) (M B : Nat) (hM : 1 ≤ M) (hx : ∀ a ∈ x, a.natAbs ≤ M) (hfB : ExpB f B) (hb : norm1 f * M ^ (B * 4) < 4611686018427387904) (hlen : f.length < 10000000) :
    Spec E.P f_cylinderref54_At #[v, .agg (intV x).toArray] h (fun v' h' => Ext h h' ∧ v' = .int .i64 (den x f)) := by
  obtain ⟨a, cap, rfl, hcap, hfA⟩ := hf
  refine Spec.intro hE (args := [_, _]) F_cylinderref54_At rfl rfl (Nat.le_of_ble_eq_true rfl) ?_
  refine DNew.intro ?_
  intro xb h1 hxb hx1 hs1 hg1
  have hwx : Whole h1 xb t_ar4_int (intV x) := hg1
  have hL : L4 f := fun t ht => by
    obtain ⟨j, hj, rfl⟩ := List.getElem_of_mem ht
    obtain ⟨b, off, -, hc⟩ := hfA (by intro e; subst e; simp at hj)
    exact (hc j hj).1.2.2.1
  refine DLoop.intro hE (ι := Nat) (fun i => [(6, .int .i64 i), (5, .int .i64 (den x (f.take i))), (0, .slice a f.length cap), (3, .pointer (some ⟨xb, 0, none⟩))]) (fun i h' => h' = h1 ∧ i ≤ f.length) (fun i => f.length - i) 0 rfl ⟨rfl, rfl, rfl, rfl, trivial⟩ ⟨rfl, Nat.zero_le _⟩ ?_
  rintro i h2 ⟨rfl, hi⟩
  refine bsp.dec (fun hlt => ?_) (fun hlt => ?_)
  · have hif : i < f.length := by omega
    obtain ⟨b, off, rfl, hc⟩ := hfA (by intro e; subst e; simp at hif)
    obtain ⟨hok, hcs⟩ := hc i hif
    have he4 := hok.2.2.1
    have hcs1 := hcs.ext hx1
    have heB : ∀ n ∈ f[i].2, n ≤ B := hfB _ (List.getElem_mem hif)
    have hcb : f[i].1.natAbs * M ^ (B * 4) ≤ norm1 f * M ^ (B * 4) := Nat.mul_le_mul_right _ (norm1_mem (List.getElem_mem hif))
    have hbnd : ∀ p : List Nat, p.length = 4 → (∀ n ∈ p, n ≤ B) → (f[i].1 * monV x p).natAbs < 4611686018427387904 := fun p hp hpB => by
      have h1 := monV_le M hM B x p hx hpB
      rw [hp] at h1
      have h2 : (f[i].1 * monV x p).natAbs ≤ f[i].1.natAbs * M ^ (B * 4) := by rw [Int.natAbs_mul]; exact Nat.mul_le_mul_left _ h1
      omega
    refine DIdx.intro i rfl rfl hif ?_
    refine DLoad.scalar (v := .int .i8 f[i].1) (hcs1.get 0 _ rfl) ?_
    refine DWrap.is f[i].1 rfl (by have := hok.1; have := hok.2.1; omega) ?_
    have hz : monV x (layE f[i].2 0) = 1 := by unfold layE; simpa using monV_zeros x 4
    refine DLoop.intro hE (ι := Nat) (fun k => [(8, .int .i64 k), (7, .int .i64 (f[i].1 * monV x (layE f[i].2 k))), (6, .int .i64 i), (5, .int .i64 (den x (f.take i))), (0, .slice (some ⟨b, off, none⟩) f.length cap), (3, .pointer (some ⟨xb, 0, none⟩))])
      (fun k h' => h' = h2 ∧ k ≤ 4) (fun k => 4 - k) 0 rfl ⟨rfl, by rw [hz, Int.mul_one]; rfl, rfl, rfl, rfl, rfl, trivial⟩ ⟨rfl, Nat.zero_le _⟩ ?_
    rintro k h3 ⟨rfl, hk⟩
    refine bsp.dec (fun hk4 => ?_) (fun hk4 => ?_)
    · have hk4' : k < 4 := by omega
      have hke : k < f[i].2.length := by omega
      have hkx : k < x.length := by omega
      have hll := layE_len he4 (k := k) (by omega)
      have hekB : f[i].2[k] ≤ B := heB _ (List.getElem_mem _)
      have h255 : f[i].2[k] ≤ 255 := hok.2.2.2 _ (List.getElem_mem _)
      have hcell : cell h3 b (off + i * 5 + 1 + k) = some (.int .u8 (f[i].2[k] : Nat)) := by
        have := hcs1.get (1 + k) (.int .u8 (f[i].2[k] : Nat)) (by rw [Nat.add_comm 1 k, List.getElem?_cons_succ, u8V_get hke])
        rw [← Nat.add_assoc] at this
        exact this
      refine DLoop.intro hE (ι := Nat) (fun n => [(9, .int .i64 n), (8, .int .i64 k), (7, .int .i64 (f[i].1 * monV x ((layE f[i].2 k).set k n))), (6, .int .i64 i), (5, .int .i64 (den x (f.take i))), (0, .slice (some ⟨b, off, none⟩) f.length cap), (3, .pointer (some ⟨xb, 0, none⟩))])
        (fun n h' => h' = h3 ∧ n ≤ f[i].2[k]) (fun n => f[i].2[k] - n) 0 rfl ⟨rfl, rfl, by rw [layE_set_zero he4 hk4']; rfl, rfl, rfl, rfl, rfl, trivial⟩ ⟨rfl, Nat.zero_le _⟩ ?_
      rintro n h4 ⟨rfl, hn⟩
      refine DIdx.intro i rfl rfl hif ?_
      refine DIdx.intro k rfl rfl hk4' ?_
      refine DLoad.scalar hcell ?_
      refine DWrap.is ((f[i].2[k] : Nat) : Int) rfl (by omega) ?_
      refine bsp.dec (fun hn1 => ?_) (fun hn1 => ?_)
      · have hn1' : n < f[i].2[k] := by omega
        have hb1 := hbnd ((layE f[i].2 k).set k (n + 1)) (by simpa using hll) (partE_le heB (by omega))
        rw [monV_set_succ x (layE f[i].2 k) k n (by omega) hkx, ← Int.mul_assoc] at hb1
        refine DIdx.intro k rfl rfl hk4' ?_
        refine DLoad.scalar (hwx.get _ (by rw [Nat.zero_add]; exact intV_get hkx)) ?_
        refine DWrap.is (f[i].1 * monV x ((layE f[i].2 k).set k n) * x[k]) rfl (by omega) ?_
        refine DWrap.is ((n + 1 : Nat) : Int) (by omega) (by omega) ?_
        exact ⟨n + 1, ⟨rfl, rfl, by rw [monV_set_succ x (layE f[i].2 k) k n (by omega) hkx, ← Int.mul_assoc]; rfl, rfl, rfl, rfl, rfl, trivial⟩, ⟨rfl, by omega⟩, by omega⟩
      · obtain rfl : n = f[i].2[k] := by omega
        refine DWrap.is ((k + 1 : Nat) : Int) (by omega) (by omega) ?_
        exact ⟨k + 1, ⟨rfl, by rw [← layE_set he4 hk4']; rfl, rfl, rfl, rfl, rfl, trivial⟩, ⟨rfl, by omega⟩, by omega⟩
    · obtain rfl : k = 4 := by omega
      have hsum : den x (f.take (i + 1)) = den x (f.take i) + f[i].1 * monV x (layE f[i].2 4) := by
        rw [List.take_succ_eq_append_getElem hif, den_append, layE_four he4]; simp [den]
      have hdl := den_le M hM B x hx (f.take (i + 1)) (fun t ht => hL t (List.mem_of_mem_take ht)) (fun t ht => hfB t (List.mem_of_mem_take ht))
      have h2' : norm1 (f.take (i + 1)) * M ^ (B * 4) ≤ norm1 f * M ^ (B * 4) := Nat.mul_le_mul_right _ (by
        have := norm1_append (f.take (i + 1)) (f.drop (i + 1))
        rw [List.take_append_drop] at this; omega)
      refine DWrap.is (den x (f.take (i + 1))) hsum.symm (by omega) ?_
      refine DWrap.is ((i + 1 : Nat) : Int) (by omega) (by omega) ?_
      exact ⟨i + 1, ⟨rfl, rfl, rfl, rfl, trivial⟩, ⟨rfl, by omega⟩, by omega⟩
  · obtain rfl : i = f.length := by omega
    refine ⟨hx1, ?_⟩
    rw [List.take_length]
end Go.Vc
