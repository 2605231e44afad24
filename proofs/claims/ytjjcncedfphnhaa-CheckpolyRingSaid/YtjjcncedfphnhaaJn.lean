/- From the readings of the arguments to what the contracts ask; and back. -/
import Derived.Test.YtjjcncedfphnhaaLaw
import Derived.Test.YtjjcncedfphnhaaRows
import Derived.WalkKit
import Derived.ProofKit
import Derived.OpenShut
import Derived.Deep.Slices
namespace Go.Vc
open Go.Proofs Go.ChangeShapes Go.WideShapes Go.ChangeAt Go.RowKit Go.Deep

theorem spot_none {w : World} {a : Addr} {v : Value} (h : w.cell? a = some v) : ∃ b off, a = ⟨b, off, none⟩ := by
  obtain ⟨b, off, spot⟩ := a
  have : spot = none := by simpa [Addr.add] using World.cell?_spot h
  subst this; exact ⟨b, off, rfl⟩

theorem list2 {α : Type} {l : List α} (h : l.length = 2) : ∃ a b, l = [a, b] := by
  match l, h with
  | [a, b], _ => exact ⟨a, b, rfl⟩
theorem list4 {α : Type} {l : List α} (h : l.length = 4) : ∃ a b c d, l = [a, b, c, d] := by
  match l, h with
  | [a, b, c, d], _ => exact ⟨a, b, c, d, rfl⟩
theorem list5 {α : Type} {l : List α} (h : l.length = 5) : ∃ a b c d e, l = [a, b, c, d, e] := by
  match l, h with
  | [a, b, c, d, e], _ => exact ⟨a, b, c, d, e, rfl⟩
theorem nth4 {α : Type} {a b c d x : α} {i : Nat} (hi : i < 4) (h : [a, b, c, d][i]? = some x) : ([a, b, c, d].drop i).take 1 = [x] := by
  match i, hi with
  | 0, _ => simpa using h
  | 1, _ => simpa using h
  | 2, _ => simpa using h
  | 3, _ => simpa using h

/-- small numbers in a row, opened -/
theorem open_u8s {H : Type} {enc : TypeId × Value → H} {w : World} {base : Nat} {sp : Nat → Bool} {held : Bool} {fuel : Nat} {cs : List Value} {x : DataW H × List MemPlace}
    (h : DataW.trod enc E.P w base sp held fuel t_ar4_uint8 cs = some x) : ∃ e : List Nat, e.length = 4 ∧ cs = u8V e ∧ ∀ y ∈ e, y ≤ 255 := by
  have hu : E.P.underlying t_ar4_uint8 = some (.array 4 t_uint8) := by kernel_rfl
  have h5 : E.P.underlying t_uint8 = some (.int .u8) := by kernel_rfl
  have hc : E.P.cellsOf t_uint8 = 1 := by kernel_rfl
  have hc4 : E.P.cellsOf t_ar4_uint8 = 4 := by kernel_rfl
  obtain ⟨xs, m, rfl, -, hl, hxl, hf⟩ := DataW.trod_array hu h
  rw [hc4] at hl
  obtain ⟨c0, c1, c2, c3, rfl⟩ := list4 hl
  have one : ∀ i (hi : i < 4) (c : Value), [c0, c1, c2, c3][i]? = some c → ∃ n : Nat, c = .int .u8 n ∧ n ≤ 255 := by
    intro i hi c hci
    have h1 := hf i hi
    rw [hc, Nat.mul_one, nth4 hi hci] at h1
    have hix : i < xs.length := by rw [hxl]; exact hi
    rw [List.getElem?_eq_getElem hix] at h1
    obtain ⟨n, he, -, hw⟩ := DataW.trod_int h5 h1
    injection he with he _
    subst he
    have hb := bounds_u8 hw
    exact ⟨n.toNat, by rw [Int.toNat_of_nonneg hb.1], by omega⟩
  obtain ⟨n0, rfl, b0⟩ := one 0 (by decide) c0 rfl
  obtain ⟨n1, rfl, b1⟩ := one 1 (by decide) c1 rfl
  obtain ⟨n2, rfl, b2⟩ := one 2 (by decide) c2 rfl
  obtain ⟨n3, rfl, b3⟩ := one 3 (by decide) c3 rfl
  refine ⟨[n0, n1, n2, n3], rfl, rfl, fun y hy => ?_⟩
  simp at hy
  omega

theorem open_mono {H : Type} {enc : TypeId × Value → H} {w : World} {base : Nat} {sp : Nat → Bool} {held : Bool} {fuel : Nat} {cs : List Value} {x : DataW H × List MemPlace}
    (h : DataW.trod enc E.P w base sp held fuel t_cylinderref31_Mono cs = some x) : ∃ t : Term1, MonoOk t ∧ cs = .int .i8 t.1 :: u8V t.2 := by
  obtain ⟨fields, hu, hfs⟩ := (hE.tab t_cylinderref31_Mono _ rfl).td
  have hc : E.P.cellsOf t_cylinderref31_Mono = 5 := by kernel_rfl
  have hc8 : E.P.cellsOf t_int8 = 1 := by kernel_rfl
  have hc4 : E.P.cellsOf t_ar4_uint8 = 4 := by kernel_rfl
  have h8 : E.P.underlying t_int8 = some (.int .i8) := by kernel_rfl
  obtain ⟨xs, n, rfl, -, hl, hxl, hf⟩ := DataW.trod_struct hu h
  rw [hc] at hl
  have hfl : fields.toList.length = 2 := by have := congrArg List.length hfs; simpa using this
  obtain ⟨f0, f1, hfe⟩ := list2 hfl
  rw [hfe] at hfs
  simp only [List.map_cons, List.map_nil, List.cons.injEq, Prod.mk.injEq, and_true] at hfs
  obtain ⟨⟨o0, t0⟩, o1, t1⟩ := hfs
  have g0 : fields[0]? = some f0 := by rw [← Array.getElem?_toList, hfe]; rfl
  have g1 : fields[1]? = some f1 := by rw [← Array.getElem?_toList, hfe]; rfl
  have h0 := hf 0 f0 g0
  have h1 := hf 1 f1 g1
  have hsz : fields.size = 2 := by rw [← Array.length_toList, hfe]; rfl
  have hx0 : 0 < xs.length := by rw [hxl, hsz]; decide
  have hx1 : 1 < xs.length := by rw [hxl, hsz]; decide
  rw [o0, t0, hc8, List.getElem?_eq_getElem hx0] at h0
  rw [o1, t1, hc4, List.getElem?_eq_getElem hx1] at h1
  obtain ⟨c0, c1, c2, c3, c4, rfl⟩ := list5 hl
  obtain ⟨z, hz, -, hw⟩ := DataW.trod_int h8 h0
  have hb := bounds_i8 hw
  obtain ⟨e, he4, hee, heb⟩ := open_u8s h1
  simp only [List.drop_zero, List.take_succ_cons, List.take_zero, List.cons.injEq, and_true] at hz
  simp only [List.drop_succ_cons, List.drop_zero, List.take_succ_cons, List.take_zero] at hee
  exact ⟨(z, e), ⟨hb.1, hb.2, he4, heb⟩, by rw [hz, hee]⟩

set_option maxRecDepth 100000 in
theorem open_monos {H : Type} {enc : TypeId × Value → H} {w : World} {r : Reach} {b0 : Nat} {sp : Nat → Bool} {held : Bool} {v : Value} {d : DataW H} {ps : List MemPlace}
    (hval : Value.okWide E.P w r b0 t_sl_cylinderref31_Mono v) (h : DataW.Trod enc E.P w 0 sp held t_sl_cylinderref31_Mono v d ps) : ∃ l, MonosAt w.heap v l := by
  have hu : E.P.underlying t_sl_cylinderref31_Mono = some (.slice t_cylinderref31_Mono) := by kernel_rfl
  have hc5 : E.P.cellsOf t_cylinderref31_Mono = 5 := by kernel_rfl
  obtain ⟨a, len, cap, rfl⟩ := okWide_slice (P := E.P) hu hval
  obtain ⟨fuel, hf⟩ := h
  rcases open_slice hu hf with ⟨hc, -⟩ | ⟨a', len', cap', m, n, D, Pl, hc, -, hl, hm, hmm, -, hx⟩
  · have hc : [Value.slice a len cap] = [.slice none 0 0] := hc
    injection hc with hc
    injection hc with e1 e2 e3
    subst e1 e2 e3
    exact ⟨[], none, 0, rfl, Nat.le_refl _, fun hne => absurd rfl hne⟩
  · have hc : [Value.slice a len cap] = [.slice (some a') len' cap'] := hc
    injection hc with hc
    injection hc with e1 e2 e3
    subst e1 e2 e3
    have hlm : len ≤ m := by rw [hmm]; split <;> omega
    have each : ∀ i, i < len → ∃ t : Term1, MonoOk t ∧ ∀ j v, (Value.int .i8 t.1 :: u8V t.2)[j]? = some v → w.cell? ((a'.add (i * 5)).add j) = some v := by
      intro i hi
      obtain ⟨cs', h1, h2⟩ := hx i (by omega)
      rw [hc5] at h1
      obtain ⟨-, hlen, hcell⟩ := World.cells?_some h1
      obtain ⟨t, hok, rfl⟩ := open_mono h2
      refine ⟨t, hok, fun j v hj => ?_⟩
      have hj5 : j < 5 := by rw [← hlen]; exact (List.getElem?_eq_some_iff.1 hj).1
      rw [hcell j hj5, hj]
    obtain ⟨f, hfx⟩ := choose_lt each
    refine ⟨(List.range len).map f, some a', cap, by simp, by simpa using hl, fun hne => ?_⟩
    have hpos : 0 < len := by
      rcases Nat.eq_zero_or_pos len with h | h
      · subst h; simp at hne
      · exact h
    obtain ⟨b, off, rfl⟩ : ∃ b off, a' = ⟨b, off, none⟩ := by
      have h1 := (hfx 0 hpos).2 0 _ rfl
      obtain ⟨b, off, he⟩ := spot_none h1
      obtain ⟨b', off', s'⟩ := a'
      simp [Addr.add] at he
      exact ⟨b', off', by rw [he.2.2]⟩
    refine ⟨b, off, rfl, fun j hj => ?_⟩
    simp only [List.length_map, List.length_range] at hj
    simp only [List.getElem_map, List.getElem_range]
    refine ⟨(hfx j hj).1, CellsAt.mk fun k v hk => ?_⟩
    have := (hfx j hj).2 k v hk
    rw [addr_add, addr_add, cell?_eq] at this
    exact this

/-- the arguments read behind the call as before it -/
theorem trodAll_below {H : Type} {enc : TypeId × Value → H} {P : Program} (hl : laidOutB P = true) {W W' : World} (hb : Below W.heap.size W W') : ∀ {ts : List TypeId} {vs : List Value} {ds : List (DataW H)} {ps : List MemPlace},
    (ts.all fun t => P.readableRec t && decide (t < P.types.size)) = true → (∀ x ∈ ps, x.block < W.heap.size) → DataW.TrodAll enc P W 0 (fun _ => true) true ts vs ds ps → DataW.TrodAll enc P W' 0 (fun b => decide (b < W.heap.size)) true ts vs ds ps
  | [], [], [], ps, _, _, h => h
  | t :: ts, v :: vs, d :: ds, ps, hr, hlt, h => by
    obtain ⟨p, q, h1, h2, rfl⟩ := h
    simp only [List.all_cons, Bool.and_eq_true, decide_eq_true_eq] at hr
    exact ⟨p, q, Below.trod hl hr.1.1 hr.1.2 h1 hb (fun x hx => hlt x (List.mem_append_left _ hx)), trodAll_below hl hb hr.2 (fun x hx => hlt x (List.mem_append_right _ hx)) h2, rfl⟩

/-- a contract that leaves what was there, as the rows ask it -/
theorem Spec.row {f : FuncId} {args : Array Value} {W : World} {z : Value} (hs : Spec E.P f args W.heap (fun v h' => Ext W.heap h' ∧ v = z)) : Calls E.P f args W fun e W' => e = .returned z ∧ Below W.heap.size W W' := by
  refine hs.calls.mono fun e W' h => ?_
  obtain ⟨hsame, v, rfl, hx, rfl⟩ := h
  exact ⟨rfl, hsame.os, hsame.tape, hsame.output, hx.size, hx.get⟩
end Go.Vc
