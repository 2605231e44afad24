/- An array of slices among the arguments. -/
import Derived.Test.YtnjkjmhhjooijaaDoorJb
namespace Go.Vc
open Go.Proofs Go.ChangeShapes Go.WideShapes Go.ChangeAt Go.RowKit Go.Deep

set_option maxRecDepth 100000 in
theorem open_u32s3 {H : Type} {enc : TypeId × Value → H} {w : World} {r : Reach} {b0 : Nat} {sp : Nat → Bool} {held : Bool} {v : Value} {d : DataW H} {ps : List MemPlace}
    (hval : Value.okWide E.P w r b0 69 v) (h : DataW.Trod enc E.P w 0 sp held 69 v d ps) :
    ∃ (x y z : Value) (f g k : List Nat), v = .agg #[x, y, z] ∧ (Nums .u32 w.heap x f ∧ Dg f) ∧ (Nums .u32 w.heap y g ∧ Dg g) ∧ (Nums .u32 w.heap z k ∧ Dg k) := by
  have hu : E.P.underlying 69 = some (.array 3 t_sl_uint32) := by kernel_rfl
  have hc : E.P.cellsOf t_sl_uint32 = 1 := by kernel_rfl
  have hc4 : E.P.cellsOf 69 = 3 := by kernel_rfl
  obtain ⟨cs, rfl, hcs0⟩ : ∃ cs, v = .agg cs ∧ _ := by
    simp only [Value.okWide, hu] at hval
    exact hval
  obtain ⟨fuel, hf⟩ := h
  obtain ⟨xs, m, rfl, -, hl, hxl, hf⟩ := DataW.trod_array hu hf
  rw [hc4] at hl
  obtain ⟨c0, c1, c2, hcs⟩ := list3 hl
  have hcs' : cs.toList = [c0, c1, c2] := hcs
  rw [hcs] at hf
  have hsu : E.P.underlying t_sl_uint32 = some (.slice t_uint32) := by kernel_rfl
  obtain ⟨-, ts, hts, -, hrow⟩ := hcs0
  have hts' : E.P.cellTypes E.P.depth 69 = some [t_sl_uint32, t_sl_uint32, t_sl_uint32] := by kernel_rfl
  obtain rfl := Option.some.inj (hts'.symm.trans hts)
  have one : ∀ i (hi : i < 3) (c : Value), [c0, c1, c2][i]? = some c → ∃ f, Nums .u32 w.heap c f ∧ Dg f := by
    intro i hi c hci
    have h1 := hf i hi
    have e : ([c0, c1, c2].drop i).take 1 = [c] := by
      match i, hi with
      | 0, _ => simpa using hci
      | 1, _ => simpa using hci
      | 2, _ => simpa using hci
    rw [hc, Nat.mul_one, e] at h1
    have hix : i < xs.length := by rw [hxl]; exact hi
    rw [List.getElem?_eq_getElem hix] at h1
    have hcc : cs[i]? = some c := by rw [← Array.getElem?_toList, hcs']; exact hci
    obtain ⟨u, hu1, hu2⟩ := hrow i c hcc
    have hu3 : u = t_sl_uint32 := by
      match i, hi with
      | 0, _ => exact (Option.some.inj hu1).symm
      | 1, _ => exact (Option.some.inj hu1).symm
      | 2, _ => exact (Option.some.inj hu1).symm
    subst hu3
    have hv1 : Value.okWide E.P w r b0 t_sl_uint32 c := by
      unfold Value.okWide
      rw [hsu]; exact hu2
    obtain ⟨a, len, cap, rfl⟩ := okWide_slice (P := E.P) hsu hv1
    exact open_u32s hv1 ⟨m, h1⟩
  obtain ⟨f, n0⟩ := one 0 (by decide) c0 rfl
  obtain ⟨g, n1⟩ := one 1 (by decide) c1 rfl
  obtain ⟨k, n2⟩ := one 2 (by decide) c2 rfl
  refine ⟨c0, c1, c2, f, g, k, ?_, n0, n1, n2⟩
  congr 1
  rw [← Array.toArray_toList (xs := cs), hcs']
end Go.Vc
