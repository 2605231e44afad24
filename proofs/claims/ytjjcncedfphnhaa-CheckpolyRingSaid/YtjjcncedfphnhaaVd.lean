/- Whole blocks. -/
import Derived.Test.YtjjcncedfphnhaaNat4
namespace Go.Vc
open Go.Proofs
def Whole (h : Heap) (b : Nat) (e : TypeId) (vs : List Value) : Prop := h[b]? = some (.cells vs.toArray e (0, 0))

theorem Whole.get {h : Heap} {b : Nat} {e : TypeId} {vs : List Value} (w : Whole h b e vs) (i : Nat) {v : Value} (hi : vs[i]? = some v) : cell h b i = some v := by
  unfold cell; rw [w]; simpa using hi
theorem Whole.cellsAt {h : Heap} {b : Nat} {e : TypeId} {vs : List Value} (w : Whole h b e vs) : CellsAt h b 0 vs := CellsAt.mk fun j v hj => by
  rw [Nat.zero_add]; exact w.get j hj
theorem Whole.cellsAt' {h : Heap} {b : Nat} {e : TypeId} {vs : List Value} (w : Whole h b e vs) (off : Nat) (us : List Value) (hu : ∀ j v, us[j]? = some v → vs[off + j]? = some v) : CellsAt h b off us := CellsAt.mk fun j v hj => w.get _ (hu j v hj)
theorem Whole.ext {h h' : Heap} (x : Ext h h') {b : Nat} {e : TypeId} {vs : List Value} (w : Whole h b e vs) : Whole h' b e vs := x.at w

theorem DStore.full {n b : Nat} {v : Value} {h : Heap} {K : Heap → Prop} {c : List Value} {e : TypeId} {vs : List Value} (hb : h[b]? = some (.cells c.toArray e (0, 0))) (hv : v.cells = vs.toArray) (hn : vs.length = n) (hc : c.length = n) (h1 : vs.all Value.oneCell' = true)
    (hk : ∀ h', Upd h b (.cells vs.toArray e (0, 0)) h' → K h') : DStore n b 0 v h K := by
  refine DStore.intro hb hv hn (by omega) (fun u hu => List.all_eq_true.1 h1 u hu) ?_
  intro h' hu
  refine hk h' ?_
  have : splice c 0 vs = vs := by simp [splice, hn, hc]
  rwa [this] at hu

/-- a part of a whole block is rewritten -/
theorem DStore.part {n b off : Nat} {v : Value} {h : Heap} {K : Heap → Prop} {c : List Value} {e : TypeId} {vs : List Value} (c' : List Value) (hb : Whole h b e c) (hv : v.cells = vs.toArray) (hn : vs.length = n) (hc : off + n ≤ c.length) (h1 : vs.all Value.oneCell' = true) (he : splice c off vs = c')
    (hk : ∀ h', Upd h b (.cells c'.toArray e (0, 0)) h' → Whole h' b e c' → K h') : DStore n b off v h K := by
  refine DStore.intro hb hv hn (by omega) (fun u hu => List.all_eq_true.1 h1 u hu) ?_
  intro h' hu
  rw [he] at hu
  exact hk h' hu hu.at_

/-- the results of a function, in a fresh block -/
theorem DLoad.whole {n b : Nat} {h : Heap} {K : Value → Prop} {e : TypeId} (vs : List Value) (w : Whole h b e vs) (hl : vs.length = n) (hk : K (.agg vs.toArray)) : DLoad (some n) b 0 h K :=
  DLoad.agg vs hl w.cellsAt hk
end Go.Vc

namespace Go.Vc
open Go.Proofs
theorem DPure.build {E : Env} {t : TypeId} {parts : Array (Nat × Value)} {K : Value → Prop} (cs : List Value) (h : E.P.built t parts.toList = some cs.toArray) (hk : K (.agg cs.toArray)) : DPure E (Instr.build t parts) K :=
  DPure.intro _ (fun w => run_build w t parts _ h) hk
end Go.Vc

namespace Go.Vc
open Go.Proofs
/-- the blocks of digits stay -/
def U32 (h h' : Heap) : Prop := ∀ (b : Nat) (c : Array Value) (fr : Nat × Nat), h[b]? = some (Obj.cells c t_uint32 fr) → h'[b]? = some (Obj.cells c t_uint32 fr)
theorem U32.rfl {h : Heap} : U32 h h := fun _ _ _ x => x
theorem U32.trans {a b c : Heap} (x : U32 a b) (y : U32 b c) : U32 a c := fun _ _ _ z => y _ _ _ (x _ _ _ z)
theorem Ext.u32 {h h' : Heap} (x : Ext h h') : U32 h h' := fun _ _ _ y => x.at y
theorem Upd.u32 {h h' : Heap} {b : Nat} {o : Obj} {c : Array Value} {e : TypeId} {fr : Nat × Nat} (u : Upd h b o h') (hb : h[b]? = some (.cells c e fr)) (he : e ≠ t_uint32) : U32 h h' := fun k c' fr' hk => by
  refine u.at_ne hk fun hkb => ?_
  subst hkb
  rw [hb] at hk
  injection hk with hk
  injection hk with _ h2 _
  exact he h2
theorem Grown.u32 {h h' : Heap} {r : Option Nat} (g : Grown h h' r) (hr : ∀ k, r = some k → ∃ c e fr, h[k]? = some (.cells c e fr) ∧ e ≠ t_uint32) : U32 h h' := fun k c' fr' hk => by
  refine g.at hk fun hkb => ?_
  obtain ⟨c, e, fr, hb, he⟩ := hr k hkb.symm
  rw [hb] at hk
  injection hk with hk
  injection hk with _ h2 _
  exact he h2
theorem NumsA.u32 {h h' : Heap} (x : U32 h h') {a : Option Addr} {ds : List Nat} (hn : NumsA .u32 h a ds) : NumsA .u32 h' a ds := fun hne => by
  obtain ⟨b, off, ha, hc, ht⟩ := hn hne
  obtain ⟨c, fr, hb⟩ := ht rfl
  have hb' := x _ _ _ hb
  refine ⟨b, off, ha, fun j hj => ?_, fun _ => ⟨c, fr, hb'⟩⟩
  rw [← hc j hj]; unfold cell; rw [hb, hb']
theorem NatAt.u32 {h h' : Heap} (x : U32 h h') {v : Value} {n : Nat} (hn : NatAt h v n) : NatAt h' v n := by
  obtain ⟨a, cap, hv, hc, hn⟩ := hn
  exact ⟨a, cap, hv, hc, hn.u32 x⟩
end Go.Vc
