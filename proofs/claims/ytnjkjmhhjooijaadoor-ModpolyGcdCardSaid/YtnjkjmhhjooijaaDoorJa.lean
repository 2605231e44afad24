/- From the readings of the arguments to what the contracts ask; and back. -/
import Derived.Test.YtnjkjmhhjooijaaDoorMa
import Derived.Test.YtnjkjmhhjooijaaDoorRows
import Derived.Test.YtnjkjmhhjooijaaDoorCards
import Derived.Test.YtnjkjmhhjooijaaDoorTie
import Derived.WalkKit
import Derived.ProofKit
import Derived.OpenShut
import Derived.Deep.Slices
import Derived.LaidMore
import Derived.ChangeVars
import Derived.LaidLaws
import Derived.Stop.Joined
import Derived.SevenTiedAt
namespace Go.Vc
open Go.Proofs Go.ChangeShapes Go.WideShapes Go.ChangeAt Go.RowKit Go.Deep

theorem spot_none {w : World} {a : Addr} {v : Value} (h : w.cell? a = some v) : ∃ b off, a = ⟨b, off, none⟩ := by
  obtain ⟨b, off, spot⟩ := a
  have : spot = none := by simpa [Addr.add] using World.cell?_spot h
  subst this; exact ⟨b, off, rfl⟩
theorem list1 {α : Type} {l : List α} (h : l.length = 1) : ∃ a, l = [a] := by
  match l, h with
  | [a], _ => exact ⟨a, rfl⟩
theorem list2 {α : Type} {l : List α} (h : l.length = 2) : ∃ a b, l = [a, b] := by
  match l, h with
  | [a, b], _ => exact ⟨a, b, rfl⟩
theorem list3 {α : Type} {l : List α} (h : l.length = 3) : ∃ a b c, l = [a, b, c] := by
  match l, h with
  | [a, b, c], _ => exact ⟨a, b, c, rfl⟩

set_option maxRecDepth 100000 in
/-- a slice of uint32 among the arguments -/
theorem open_u32s {H : Type} {enc : TypeId × Value → H} {w : World} {r : Reach} {b0 : Nat} {sp : Nat → Bool} {held : Bool} {v : Value} {d : DataW H} {ps : List MemPlace}
    (hval : Value.okWide E.P w r b0 t_sl_uint32 v) (h : DataW.Trod enc E.P w 0 sp held t_sl_uint32 v d ps) : ∃ f, Nums .u32 w.heap v f ∧ Dg f := by
  have hu : E.P.underlying t_sl_uint32 = some (.slice t_uint32) := by kernel_rfl
  have hc1 : E.P.cellsOf t_uint32 = 1 := by kernel_rfl
  have h32 : E.P.underlying t_uint32 = some (.int .u32) := by kernel_rfl
  obtain ⟨a, len, cap, rfl⟩ := okWide_slice (P := E.P) hu hval
  obtain ⟨fuel, hf⟩ := h
  rcases open_slice hu hf with ⟨hc, -⟩ | ⟨a', len', cap', m, n, D, Pl, hc, -, hl, hm, hmm, -, hx⟩
  · have hc : [Value.slice a len cap] = [.slice none 0 0] := hc
    injection hc with hc
    injection hc with e1 e2 e3
    subst e1 e2 e3
    exact ⟨[], Nums.nil _ _, fun d hd => (List.not_mem_nil hd).elim⟩
  · have hc : [Value.slice a len cap] = [.slice (some a') len' cap'] := hc
    injection hc with hc
    injection hc with e1 e2 e3
    subst e1 e2 e3
    have hlm : len ≤ m := by rw [hmm]; split <;> omega
    have each : ∀ i, i < len → ∃ x : Nat, x < 4294967296 ∧ w.cell? (a'.add i) = some (vnum .u32 x) := by
      intro i hi
      obtain ⟨cs', h1, h2⟩ := hx i (by omega)
      rw [hc1, Nat.mul_one] at h1
      obtain ⟨-, hlen, hcell⟩ := World.cells?_some h1
      obtain ⟨c, rfl⟩ := list1 hlen
      obtain ⟨z, hz, -, hw⟩ := DataW.trod_int h32 h2
      injection hz with hz _
      subst hz
      have hb := bounds_u32 hw
      refine ⟨z.toNat, by omega, ?_⟩
      have := hcell 0 (by decide)
      have e0 : (a'.add i).add 0 = a'.add i := by
        obtain ⟨b, o, s⟩ := a'
        unfold Addr.add
        split <;> simp_all
      rw [e0] at this
      rw [this]
      show some (Value.int .u32 z) = some (Value.int .u32 (z.toNat : Int))
      rw [Int.toNat_of_nonneg hb.1]
    obtain ⟨f, hfx⟩ := choose_lt each
    refine ⟨(List.range len).map f, ⟨some a', cap, by simp, ⟨by simpa using hl, fun e => by cases e⟩, fun hne => ?_⟩, fun d hd => ?_⟩
    · have hpos : 0 < len := by
        rcases Nat.eq_zero_or_pos len with h | h
        · subst h; simp at hne
        · exact h
      obtain ⟨b, off, rfl⟩ : ∃ b off, a' = ⟨b, off, none⟩ := by
        obtain ⟨b, off, he⟩ := spot_none (hfx 0 hpos).2
        obtain ⟨b', off', s'⟩ := a'
        simp [Addr.add] at he
        exact ⟨b', off', by rw [he.2.2]⟩
      refine ⟨b, off, rfl, fun j hj => ?_⟩
      simp only [List.length_map, List.length_range] at hj
      simp only [List.getElem_map, List.getElem_range]
      have := (hfx j hj).2
      rw [addr_add, cell?_eq] at this
      exact this
    · obtain ⟨i, hi, rfl⟩ := List.mem_map.1 hd
      exact (hfx i (by simpa using hi)).1

set_option maxRecDepth 100000 in
theorem open_u32x2 {H : Type} {enc : TypeId × Value → H} {w : World} {r : Reach} {b0 : Nat} {sp : Nat → Bool} {held : Bool} {v : Value} {d : DataW H} {ps : List MemPlace}
    (hval : Value.okWide E.P w r b0 t_2_uint32 v) (h : DataW.Trod enc E.P w 0 sp held t_2_uint32 v d ps) : ∃ a0 a1 : Nat, v = .agg #[vnum .u32 a0, vnum .u32 a1] ∧ a0 < 4294967296 ∧ a1 < 4294967296 := by
  have hu : E.P.underlying t_2_uint32 = some (.array 2 t_uint32) := by kernel_rfl
  have h8 : E.P.underlying t_uint32 = some (.int .u32) := by kernel_rfl
  have hc : E.P.cellsOf t_uint32 = 1 := by kernel_rfl
  have hc4 : E.P.cellsOf t_2_uint32 = 2 := by kernel_rfl
  obtain ⟨cs, rfl⟩ : ∃ cs, v = .agg cs := by
    simp only [Value.okWide, hu] at hval
    obtain ⟨cs, hv, -⟩ := hval
    exact ⟨cs, hv⟩
  obtain ⟨fuel, hf⟩ := h
  obtain ⟨xs, m, rfl, -, hl, hxl, hf⟩ := DataW.trod_array hu hf
  rw [hc4] at hl
  obtain ⟨c0, c1, hcs⟩ := list2 hl
  have hcs' : cs.toList = [c0, c1] := hcs
  rw [hcs] at hf
  have one : ∀ i (hi : i < 2) (c : Value), [c0, c1][i]? = some c → ∃ n : Nat, c = vnum .u32 n ∧ n < 4294967296 := by
    intro i hi c hci
    have h1 := hf i hi
    have e : ([c0, c1].drop i).take 1 = [c] := by
      match i, hi with
      | 0, _ => simpa using hci
      | 1, _ => simpa using hci
    rw [hc, Nat.mul_one, e] at h1
    have hix : i < xs.length := by rw [hxl]; exact hi
    rw [List.getElem?_eq_getElem hix] at h1
    obtain ⟨n, he, -, hw⟩ := DataW.trod_int h8 h1
    injection he with he _
    subst he
    have hb := bounds_u32 hw
    exact ⟨n.toNat, by show Value.int .u32 n = Value.int .u32 (n.toNat : Int); rw [Int.toNat_of_nonneg hb.1], by omega⟩
  obtain ⟨n0, rfl, b0⟩ := one 0 (by decide) c0 rfl
  obtain ⟨n1, rfl, b1⟩ := one 1 (by decide) c1 rfl
  refine ⟨n0, n1, ?_, b0, b1⟩
  congr 1
  rw [← Array.toArray_toList (xs := cs), hcs']

/-- the arguments read behind the call as before it -/
theorem trodAll_below {H : Type} {enc : TypeId × Value → H} {P : Program} (hl : laidOutB P = true) {W W' : World} (hb : Below W.heap.size W W') : ∀ {ts : List TypeId} {vs : List Value} {ds : List (DataW H)} {ps : List MemPlace},
    (ts.all fun t => P.readableRec t && decide (t < P.types.size)) = true → (∀ x ∈ ps, x.block < W.heap.size) → DataW.TrodAll enc P W 0 (fun _ => true) true ts vs ds ps → DataW.TrodAll enc P W' 0 (fun b => decide (b < W.heap.size)) true ts vs ds ps
  | [], [], [], ps, _, _, h => h
  | t :: ts, v :: vs, d :: ds, ps, hr, hlt, h => by
    obtain ⟨p, q, h1, h2, rfl⟩ := h
    simp only [List.all_cons, Bool.and_eq_true, decide_eq_true_eq] at hr
    exact ⟨p, q, Below.trod hl hr.1.1 hr.1.2 h1 hb (fun x hx => hlt x (List.mem_append_left _ hx)), trodAll_below hl hb hr.2 (fun x hx => hlt x (List.mem_append_right _ hx)) h2, rfl⟩
theorem Spec.row {f : FuncId} {args : Array Value} {W : World} {z : Value} (hs : Spec E.P f args W.heap (fun v h' => Ext W.heap h' ∧ v = z)) : Calls E.P f args W fun e W' => e = .returned z ∧ Below W.heap.size W W' := by
  refine hs.calls.mono fun e W' h => ?_
  obtain ⟨hsame, v, rfl, hx, rfl⟩ := h
  exact ⟨rfl, hsame.os, hsame.tape, hsame.output, hx.size, hx.get⟩
end Go.Vc
namespace Go.Proofs.YtnjkjmhhjooijaaDoor
open Go.ChangeShapes Go.WideShapes Go.ChangeAt Go.RowKit Go.Vc

theorem doorOwn : ownKnob Tryd.prog.godebug = none := by kernel_rfl
theorem doorLaidOut : laidOutB Tryd.prog = true := by kernel_rfl
abbrev doorTab : List (String × DataW Unit) := [("math/bits.deBruijn32tab", Rows.laid_math_bits_deBruijn32tab)]
theorem door_met (os : Os) (args : Array Value) : laidMetH Tryd.prog doorTab ((World.doorLaid Tryd.prog 400 os).forCall (fun _ _ => 0) ⟨#[], args, []⟩).memory :=
  laidMetH_of_parts3 (fuel := 8) (laidMet_of_run' 8 (by kernel_rfl) (by kernel_rfl)) (by kernel_rfl) (by kernel_rfl)
end Go.Proofs.YtnjkjmhhjooijaaDoor
