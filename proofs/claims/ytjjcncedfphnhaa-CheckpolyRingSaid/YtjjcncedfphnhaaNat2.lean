/- Contracts of the functions on natural numbers, more. -/
import Derived.Test.YtjjcncedfphnhaaNat1
namespace Go.Vc
open Go.Proofs

theorem Cmp_any (h : Heap) (v1 v2 : Value) (ds es : List Nat) (hd : Nums .u32 h v1 ds) (he : Nums .u32 h v2 es) (hdg : Dg ds) (heg : Dg es) (hl1 : ds.length < 1000000000) (hl2 : es.length < 1000000000) :
    Spec E.P f_natural_Cmp #[v1, v2] h (fun v h' => h' = h ∧ v = .int .i64 (cmpN (dval ds) (dval es))) := by
  refine Spec.intro hE (args := [v1, v2]) F_natural_Cmp rfl rfl (Nat.le_of_ble_eq_true rfl) ?_
  refine (trim_nat h v1 ds hd hdg hl1).mono ?_
  rintro v1' h' ⟨rfl, ⟨a, cap, rfl, hcap, hA⟩, _⟩
  refine (trim_nat h' v2 es he heg hl2).mono ?_
  rintro v2' h' ⟨rfl, ⟨b, cap2, rfl, hcap2, hB⟩, _⟩
  have la : (digs (dval ds)).length < 1000000000 := by rw [← tlen_eq hdg]; have := tlen_le ds ds.length; omega
  have lb : (digs (dval es)).length < 1000000000 := by rw [← tlen_eq heg]; have := tlen_le es es.length; omega
  have gA := digs_dg (dval ds)
  have gB := digs_dg (dval es)
  have vA := dval_digs (dval ds)
  have vB := dval_digs (dval es)
  have k1 := @digs_len_lt (dval ds) (dval es)
  have k2 := @digs_len_lt (dval es) (dval ds)
  generalize digs (dval ds) = A at *
  generalize digs (dval es) = B at *
  generalize dval ds = x at *
  generalize dval es = y at *
  refine bsp.dec (fun hc => ?_) (fun hc => ?_)
  · refine ⟨rfl, ?_⟩
    have := k1 (by omega)
    rw [cmpN, if_pos this]
  refine bsp.dec (fun hc2 => ?_) (fun hc2 => ?_)
  · refine ⟨rfl, ?_⟩
    have := k2 (by omega)
    rw [cmpN, if_neg (by omega), if_pos this]
  have hlen : A.length = B.length := by omega
  refine DWrap.i64 (by omega) ?_
  refine DLoop.intro hE (ι := Nat) (fun k => [(0, .slice a A.length cap), (1, .slice b B.length cap2), (5, .int .i64 ((k : Int) - 1))]) (fun k h'' => h'' = h' ∧ k ≤ A.length ∧ A.drop k = B.drop k) (fun k => k) A.length rfl ⟨rfl, rfl, rfl, trivial⟩ ⟨rfl, Nat.le_refl _, by simp [hlen]⟩ ?_
  rintro k h'' ⟨rfl, hk, hdr⟩
  refine bsp.dec (fun hc => ?_) (fun hc => ?_)
  · obtain ⟨m, rfl⟩ : ∃ m, k = m + 1 := ⟨k - 1, by omega⟩
    obtain ⟨ba, oa, rfl, hca, -⟩ := hA (by intro e; subst e; simp at hk)
    obtain ⟨bb, ob, rfl, hcb, -⟩ := hB (by intro e; rw [e] at hlen; simp only [List.length_nil] at hlen; omega)
    refine DDraw.intro hE (.take 0 (.take 1 (.take 2 (.take 4 (.take 5 (.take 6 (.take 3 (.take 7 (.take 8 (.take 9 .done)))))))))) none (· = h'') (by kernel_rfl) rfl ?_
    refine DIdx.intro m rfl (by omega) (by omega) ?_
    refine DIdx.intro m rfl (by omega) (by omega) ?_
    refine QLoad.scalar (fun _ e => e ▸ hca m (by omega)) ?_
    refine QLoad.scalar (fun _ e => e ▸ hcb m (by omega)) ?_
    refine bsp.dec (fun hlt => ?_) (fun hlt => ?_)
    · refine ⟨rfl, ?_⟩
      have := dval_lt_at gA (i := m) (by omega) (by omega) hdr (by omega)
      rw [vA, vB] at this
      rw [cmpN, if_pos this]
    refine DDraw.intro hE (.take 0 (.take 1 (.take 2 (.take 4 (.take 5 (.take 6 (.take 3 (.take 7 (.take 8 (.take 9 .done)))))))))) none (· = h'') (by kernel_rfl) rfl ?_
    refine DIdx.intro m rfl (by omega) (by omega) ?_
    refine DIdx.intro m rfl (by omega) (by omega) ?_
    refine QLoad.scalar (fun _ e => e ▸ hca m (by omega)) ?_
    refine QLoad.scalar (fun _ e => e ▸ hcb m (by omega)) ?_
    refine bsp.dec (fun hgt => ?_) (fun hgt => ?_)
    · refine ⟨rfl, ?_⟩
      have := dval_lt_at gB (i := m) (by omega) (by omega) hdr.symm (by omega)
      rw [vA, vB] at this
      rw [cmpN, if_neg (by omega), if_pos this]
    refine DWrap.is ((m : Int) - 1) (by omega) (by omega) ?_
    refine ⟨m, ⟨rfl, rfl, rfl, trivial⟩, ⟨rfl, by omega, ?_⟩, by omega⟩
    rw [List.drop_eq_getElem_cons (by omega), List.drop_eq_getElem_cons (show m < B.length by omega), hdr]
    congr 1
    omega
  · obtain rfl : k = 0 := by omega
    refine ⟨rfl, ?_⟩
    simp only [List.drop_zero] at hdr
    subst hdr
    have : x = y := by rw [← vA, ← vB]
    rw [cmpN, if_neg (by omega), if_neg (by omega)]
end Go.Vc
