/- Small numbers as arguments, and the laid table. -/
import Derived.Test.YtnjkjmhhjooijaaDoorJa
import Derived.Test.YtnjkjmhhjooijaaDoorKa
namespace Go.Vc
open Go.Proofs Go.ChangeShapes Go.WideShapes Go.ChangeAt Go.RowKit Go.Deep

set_option maxRecDepth 100000 in
theorem open_u8 {H : Type} {enc : TypeId × Value → H} {w : World} {r : Reach} {b0 : Nat} {sp : Nat → Bool} {held : Bool} {v : Value} {d : DataW H} {ps : List MemPlace}
    (hval : Value.okWide E.P w r b0 t_uint8 v) (h : DataW.Trod enc E.P w 0 sp held t_uint8 v d ps) : ∃ n : Nat, v = vnum .u8 n ∧ n < 256 := by
  have h8 : E.P.underlying t_uint8 = some (.int .u8) := by kernel_rfl
  obtain ⟨n, rfl⟩ : ∃ n, v = .int .u8 n := by
    unfold Value.okWide at hval
    rw [h8] at hval
    cases v with
    | int k n => obtain ⟨rfl, -⟩ := hval; exact ⟨n, rfl⟩
    | _ => exact hval.elim
  obtain ⟨fuel, hf⟩ := h
  obtain ⟨z, he, -, hw⟩ := DataW.trod_int h8 hf
  injection he with he _
  injection he with _ he
  subst he
  have hb : 0 ≤ n ∧ n < 256 := by
    have : IntKind.u8.min ≤ n ∧ n ≤ IntKind.u8.max := by simpa [Lit.wf] using hw
    have e1 : IntKind.u8.min = 0 := rfl
    have e2 : IntKind.u8.max = 255 := rfl
    omega
  exact ⟨n.toNat, by show Value.int .u8 n = Value.int .u8 (n.toNat : Int); rw [Int.toNat_of_nonneg hb.1], by omega⟩

set_option maxRecDepth 100000 in
theorem open_u16x3 {H : Type} {enc : TypeId × Value → H} {w : World} {r : Reach} {b0 : Nat} {sp : Nat → Bool} {held : Bool} {v : Value} {d : DataW H} {ps : List MemPlace}
    (hval : Value.okWide E.P w r b0 63 v) (h : DataW.Trod enc E.P w 0 sp held 63 v d ps) : ∃ a0 a1 a2 : Nat, v = .agg #[vnum .u16 a0, vnum .u16 a1, vnum .u16 a2] ∧ a0 < 65536 ∧ a1 < 65536 ∧ a2 < 65536 := by
  have hu : E.P.underlying 63 = some (.array 3 62) := by kernel_rfl
  have h8 : E.P.underlying 62 = some (.int .u16) := by kernel_rfl
  have hc : E.P.cellsOf 62 = 1 := by kernel_rfl
  have hc4 : E.P.cellsOf 63 = 3 := by kernel_rfl
  obtain ⟨cs, rfl⟩ : ∃ cs, v = .agg cs := by
    simp only [Value.okWide, hu] at hval
    obtain ⟨cs, hv, -⟩ := hval
    exact ⟨cs, hv⟩
  obtain ⟨fuel, hf⟩ := h
  obtain ⟨xs, m, rfl, -, hl, hxl, hf⟩ := DataW.trod_array hu hf
  rw [hc4] at hl
  obtain ⟨c0, c1, c2, hcs⟩ := list3 hl
  have hcs' : cs.toList = [c0, c1, c2] := hcs
  rw [hcs] at hf
  have one : ∀ i (hi : i < 3) (c : Value), [c0, c1, c2][i]? = some c → ∃ n : Nat, c = vnum .u16 n ∧ n < 65536 := by
    intro i hi c hci
    have h1 := hf i hi
    have e : ([c0, c1, c2].drop i).take 1 = [c] := by
      match i, hi with
      | 0, _ => simpa using hci
      | 1, _ => simpa using hci
      | 2, _ => simpa using hci
    rw [hc, Nat.mul_one, e] at h1
    have hix : i < xs.length := by rw [hxl]; exact hi
    rw [List.getElem?_eq_getElem hix] at h1
    obtain ⟨n, he, -, hw⟩ := DataW.trod_int h8 h1
    injection he with he _
    subst he
    have hb : 0 ≤ n ∧ n < 65536 := by
      have : IntKind.u16.min ≤ n ∧ n ≤ IntKind.u16.max := by simpa [Lit.wf] using hw
      have e1 : IntKind.u16.min = 0 := rfl
      have e2 : IntKind.u16.max = 65535 := rfl
      omega
    exact ⟨n.toNat, by show Value.int .u16 n = Value.int .u16 (n.toNat : Int); rw [Int.toNat_of_nonneg hb.1], by omega⟩
  obtain ⟨n0, rfl, b0⟩ := one 0 (by decide) c0 rfl
  obtain ⟨n1, rfl, b1⟩ := one 1 (by decide) c1 rfl
  obtain ⟨n2, rfl, b2⟩ := one 2 (by decide) c2 rfl
  refine ⟨n0, n1, n2, ?_, b0, b1, b2⟩
  congr 1
  rw [← Array.toArray_toList (xs := cs), hcs']
end Go.Vc
namespace Go.Proofs.YtnjkjmhhjooijaaDoor
open Go.ChangeShapes Go.WideShapes Go.ChangeAt Go.RowKit Go.Vc

theorem tab_ok {W : World} (h : laidMetH Tryd.prog doorTab W) : TabOk W.heap := by
  intro r hr
  rw [MakeChecks.laidMetH_plain _ _ _ (by kernel_rfl)] at h
  obtain ⟨ps, ⟨g, t, cs, fuel, p, q, hg, ht, hv, hd, _, _⟩, _, _⟩ := h
  obtain rfl := Option.some.inj ((show Tryd.prog.globalNamed "math/bits.deBruijn32tab" = some 0 by kernel_rfl).symm.trans hg)
  obtain rfl := Option.some.inj ((show (Tryd.prog.globals[0]?).map (·.type) = some 119 by kernel_rfl).symm.trans ht)
  obtain ⟨xs, m, _, ex, _, hl, hel⟩ := DataW.trod_array Tryd.underlying119 hd
  have c5 : Tryd.prog.cellsOf 5 = 1 := by kernel_rfl
  have hE := hel r hr
  rw [c5, Nat.mul_one, List.getElem?_eq_getElem (by omega)] at hE
  obtain ⟨z, e1, e2, _⟩ := DataW.trod_int Tryd.underlying5 hE
  have hlen : db32.length = 32 := rfl
  have e3 : (xs.map (·.1)) = db32.map fun n : Nat => (.lit (.int .u8 (n : Int)) : DataW Unit) := (DataW.agg.inj (Prod.mk.inj ex).1).symm
  have e4 : (xs.map (·.1))[r]? = (db32.map fun n : Nat => (DataW.lit (.int .u8 (n : Int)) : DataW Unit))[r]? := by rw [e3]
  rw [List.getElem?_map, List.getElem?_map, List.getElem?_eq_getElem (by omega : r < xs.length), List.getElem?_eq_getElem (by omega : r < db32.length), e2] at e4
  have hz : z = (co db32 r : Nat) := by
    simp only [Option.map_some, Option.some.injEq, DataW.lit.injEq, Lit.int.injEq, true_and] at e4
    rw [e4, co_lt (by omega : r < db32.length)]
  have h1 : cs.toList[r]? = some (.int .u8 z) := by
    have h0 : ((cs.toList.drop r).take 1)[0]? = some (.int .u8 z) := by rw [e1]; rfl
    simpa using h0
  have h2 := World.var?_cell hg hv r
  rw [cell?_eq] at h2
  rw [h2, ← Array.getElem?_toList, h1, hz]
end Go.Proofs.YtnjkjmhhjooijaaDoor
