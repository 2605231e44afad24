/- Contracts of small functions of the statements. -/
import Derived.Test.YtjjcncedfphnhaaInt
namespace Go.Vc
open Go.Proofs

theorem digs_small {n : Nat} (h : n < 4294967296) (h0 : n ≠ 0) : digs n = [n] := by
  rw [digs_pos h0, Nat.mod_eq_of_lt h, Nat.div_eq_of_lt h, digs_zero]

theorem ref31_Int_any (h : Heap) (z : Int) (hz : -128 ≤ z ∧ z ≤ 127) : Spec E.P f_cylinderref31_Int #[.int .i8 z] h (fun v h' => Ext h h' ∧ IntAt h' v z) := by
  refine Spec.intro hE (args := [_]) F_cylinderref31_Int rfl rfl (Nat.le_of_ble_eq_true rfl) ?_
  refine DNew.intro ?_
  intro b h1 hb hx1 hs1 hg1
  refine bsp.dec (fun hc => ?_) (fun hc => ?_)
  · refine DWrap.is z rfl (by omega) ?_
    refine DWrap.is (-z) (by omega) (by omega) ?_
    refine DWrap.eq (m := (z.natAbs : Nat)) (by rw [IntKind.wrap_u32']; omega) ?_
    refine ⟨⟨rfl, by decide, rfl, rfl, trivial⟩, ?_⟩
    refine DNew.intro ?_
    intro b2 h2 hb2 hx2 hs2 hg2
    have hN : NumB h2 b2 .u32 t_uint32 [z.natAbs] := hg2
    have hv2 : NatAt h2 (.slice (some ⟨b2, 0, none⟩) 1 1) z.natAbs := by
      unfold NatAt; rw [digs_small (by omega) (by omega)]
      exact ⟨_, 1, rfl, Nat.le_refl _, hN.numsA⟩
    have hi : IntAt h2 (.agg #[.bool true, .slice (some ⟨b2, 0, none⟩) 1 1]) (sgn true z.natAbs) := IntAt.mk hv2 (by simp; omega)
    have e : sgn true z.natAbs = z := by unfold sgn; simp; omega
    rw [e] at hi
    refine DPure.build [.bool true, .slice (some ⟨b2, 0, none⟩) 1 1] (by kernel_rfl) ?_
    refine DStore.result (hx2.at hg1) (by decide) rfl rfl (hx1.trans hx2) (by omega) hi ?_
    intro h6 hx6 hi6 hw
    exact DLoad.whole _ hw rfl ⟨hx6, hi6⟩
  refine bsp.dec (fun hc2 => ?_) (fun hc2 => ?_)
  · subst hc2
    refine DPure.build [.bool false, .slice none 0 0] (by kernel_rfl) ?_
    have hi : IntAt h1 (.agg #[.bool false, .slice none 0 0]) 0 := by
      have h0 : (digs (Int.natAbs 0)) = [] := digs_zero
      refine ⟨none, 0, ?_, none, 0, ?_, ?_, ?_⟩ <;> rw [h0]
      · rfl
      · exact Nat.le_refl _
      · exact fun hne => absurd rfl hne
    refine DStore.result hg1 (by decide) rfl rfl hx1 (by omega) hi ?_
    intro h6 hx6 hi6 hw
    exact DLoad.whole _ hw rfl ⟨hx6, hi6⟩
  · refine DWrap.eq (m := (z.natAbs : Nat)) (by rw [IntKind.wrap_u32']; omega) ?_
    refine ⟨⟨rfl, by decide, rfl, rfl, trivial⟩, ?_⟩
    refine DNew.intro ?_
    intro b2 h2 hb2 hx2 hs2 hg2
    have hN : NumB h2 b2 .u32 t_uint32 [z.natAbs] := hg2
    have hv2 : NatAt h2 (.slice (some ⟨b2, 0, none⟩) 1 1) z.natAbs := by
      unfold NatAt; rw [digs_small (by omega) (by omega)]
      exact ⟨_, 1, rfl, Nat.le_refl _, hN.numsA⟩
    have hi : IntAt h2 (.agg #[.bool false, .slice (some ⟨b2, 0, none⟩) 1 1]) (sgn false z.natAbs) := IntAt.mk hv2 (by simp)
    have e : sgn false z.natAbs = z := by unfold sgn; simp; omega
    rw [e] at hi
    refine DPure.build [.bool false, .slice (some ⟨b2, 0, none⟩) 1 1] (by kernel_rfl) ?_
    refine DStore.result (hx2.at hg1) (by decide) rfl rfl (hx1.trans hx2) (by omega) hi ?_
    intro h6 hx6 hi6 hw
    exact DLoad.whole _ hw rfl ⟨hx6, hi6⟩
end Go.Vc
