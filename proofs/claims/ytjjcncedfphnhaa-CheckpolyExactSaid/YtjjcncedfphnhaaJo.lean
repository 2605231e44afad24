/- Arrays of four int8 among the arguments. -/
import Derived.Test.YtjjcncedfphnhaaJn
import Derived.Test.YtjjcncedfphnhaaSum
namespace Go.Vc
open Go.Proofs Go.ChangeShapes Go.WideShapes Go.ChangeAt Go.RowKit Go.Deep

set_option maxRecDepth 100000 in
theorem open_i8x4 {H : Type} {enc : TypeId × Value → H} {w : World} {r : Reach} {b0 : Nat} {sp : Nat → Bool} {held : Bool} {v : Value} {d : DataW H} {ps : List MemPlace}
    (hval : Value.okWide E.P w r b0 t_ar4_int8 v) (h : DataW.Trod enc E.P w 0 sp held t_ar4_int8 v d ps) : ∃ a0 a1 a2 a3, v = .agg #[.int .i8 a0, .int .i8 a1, .int .i8 a2, .int .i8 a3] ∧ XOk a0 ∧ XOk a1 ∧ XOk a2 ∧ XOk a3 := by
  have hu : E.P.underlying t_ar4_int8 = some (.array 4 t_int8) := by kernel_rfl
  have h8 : E.P.underlying t_int8 = some (.int .i8) := by kernel_rfl
  have hc : E.P.cellsOf t_int8 = 1 := by kernel_rfl
  have hc4 : E.P.cellsOf t_ar4_int8 = 4 := by kernel_rfl
  obtain ⟨cs, rfl⟩ : ∃ cs, v = .agg cs := by
    simp only [Value.okWide, hu] at hval
    obtain ⟨cs, hv, -⟩ := hval
    exact ⟨cs, hv⟩
  obtain ⟨fuel, hf⟩ := h
  obtain ⟨xs, m, rfl, -, hl, hxl, hf⟩ := DataW.trod_array hu hf
  rw [hc4] at hl
  obtain ⟨c0, c1, c2, c3, hcs⟩ := list4 hl
  have hcs' : cs.toList = [c0, c1, c2, c3] := hcs
  rw [hcs] at hf
  have one : ∀ i (hi : i < 4) (c : Value), [c0, c1, c2, c3][i]? = some c → ∃ n : Int, c = .int .i8 n ∧ XOk n := by
    intro i hi c hci
    have h1 := hf i hi
    rw [hc, Nat.mul_one, nth4 hi hci] at h1
    have hix : i < xs.length := by rw [hxl]; exact hi
    rw [List.getElem?_eq_getElem hix] at h1
    obtain ⟨n, he, -, hw⟩ := DataW.trod_int h8 h1
    injection he with he _
    subst he
    have hb := bounds_i8 hw
    exact ⟨n, rfl, hb⟩
  obtain ⟨n0, rfl, b0⟩ := one 0 (by decide) c0 rfl
  obtain ⟨n1, rfl, b1⟩ := one 1 (by decide) c1 rfl
  obtain ⟨n2, rfl, b2⟩ := one 2 (by decide) c2 rfl
  obtain ⟨n3, rfl, b3⟩ := one 3 (by decide) c3 rfl
  refine ⟨n0, n1, n2, n3, ?_, b0, b1, b2, b3⟩
  congr 1
  rw [← Array.toArray_toList (xs := cs), hcs']
end Go.Vc
