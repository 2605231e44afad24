/- Constants. -/
import Derived.Test.YtjjcncedfphnhaaXs
namespace Go.Vc
open Go.Proofs

/-- the constant z -/
def conP (z : Int) : Pol := if z = 0 then [] else [(z, [0, 0, 0, 0])]
theorem conP_canon (z : Int) : Canon (conP z) := by
  unfold conP
  split
  · exact Canon.nil
  · rename_i hz
    exact ⟨List.pairwise_singleton _ _, by simp [hz], fun t ht => by rw [List.mem_singleton.1 ht]; rfl⟩
theorem conP_expB (z : Int) (B : Nat) : ExpB (conP z) B := by
  unfold conP
  split
  · exact fun _ h => (List.not_mem_nil h).elim
  · intro t ht x hx
    rw [List.mem_singleton.1 ht] at hx
    simp at hx; omega
theorem conP_norm (z : Int) : norm1 (conP z) = z.natAbs := by
  unfold conP
  split
  · rename_i hz; subst hz; rfl
  · simp [norm1]
theorem conP_len (z : Int) : (conP z).length ≤ 1 := by unfold conP; split <;> simp
theorem conP_cf (z : Int) (e : List Nat) : cf (conP z) e = if e = [0, 0, 0, 0] then z else 0 := by
  unfold conP
  split
  · rename_i hz; subst hz; simp [cf]
  · simp only [cf, Int.add_zero]
    by_cases he : e = [0, 0, 0, 0]
    · subst he; simp
    · rw [if_neg he, if_neg (fun h => he h.symm)]

theorem Const_any (h : Heap) (v : Value) (z : Int) (hv : IntAt h v z) (hl : (digs z.natAbs).length < 1000000000) :
    Spec E.P f_checkpoly_Const #[v] h (fun v' h' => Ext h h' ∧ PolyAt h' v' (conP z)) := by
  have hv0 := hv
  obtain ⟨a, cap, rfl, -⟩ := hv
  refine Spec.intro hE (args := [_]) F_checkpoly_Const rfl rfl (Nat.le_of_ble_eq_true rfl) ?_
  refine DNew.intro ?_
  intro b h1 hb hx1 hs1 hg1
  have w : Whole h1 b t_integer_Int [_, _] := hg1
  refine DLoad.agg _ rfl w.cellsAt ?_
  refine (Sign_any h1 _ z (hv0.ext hx1) hl).mono ?_
  rintro _ h2 ⟨hx2, rfl⟩
  refine bsp.dec (p := cmpI z 0 = 0) (fun hz => ?_) (fun hz => ?_)
  · have : z = 0 := cmpI_eq_zero.1 hz
    subst this
    refine ⟨hx1.trans hx2, ?_⟩
    exact PolyAt.nil _
  · have hz0 : z ≠ 0 := fun e => hz (cmpI_eq_zero.2 e)
    refine DLoad.agg _ rfl (w.ext hx2).cellsAt ?_
    refine (integer_Normal_any h2 _ z (hv0.ext (hx1.trans hx2)) hl).mono ?_
    rintro v3 h3 ⟨hx3, hi3⟩
    have hi0 := hi3
    obtain ⟨a3, cap3, rfl, -⟩ := hi3
    refine DPure.build [.bool (decide (z < 0)), .slice a3 (digs z.natAbs).length cap3, .int .i64 (0 : Nat), .int .i64 (0 : Nat), .int .i64 (0 : Nat), .int .i64 (0 : Nat)] (by kernel_rfl) ?_
    refine ⟨⟨rfl, by decide, rfl, rfl, trivial⟩, ?_⟩
    refine DNew.intro ?_
    intro nb h5 hnb hx5 hs5 hg5
    have ht : TermAt h3 (.bool (decide (z < 0)) :: .slice a3 (digs z.natAbs).length cap3 :: expV [0, 0, 0, 0]) (z, [0, 0, 0, 0]) := ⟨rfl, _, _, rfl, hi0⟩
    have e : conP z = [(z, [0, 0, 0, 0])] := by unfold conP; rw [if_neg hz0]
    rw [e]
    refine ⟨hx1.trans (hx2.trans (hx3.trans hx5)), some ⟨nb, 0, none⟩, 1, rfl, ⟨Nat.le_refl _, fun e => (by cases e), fun b off s e _ => by cases e; exact ⟨_, _, hg5⟩⟩, fun _ => ⟨nb, 0, rfl, fun j hj => ?_⟩⟩
    obtain rfl : j = 0 := by simpa using hj
    exact ⟨_, ht.ext hx5, Whole.cellsAt (e := t_checkpoly_Term) hg5⟩

theorem num_any (h : Heap) (n : Int) (hn : -9223372036854775808 ≤ n ∧ n ≤ 9223372036854775807) :
    Spec E.P f_cylinderlaw54_num #[.int .i64 n] h (fun v' h' => Ext h h' ∧ PolyAt h' v' (conP n)) := by
  refine Spec.intro hE (args := [_]) F_cylinderlaw54_num rfl rfl (Nat.le_of_ble_eq_true rfl) ?_
  refine (integer_Of_any h n hn).mono ?_
  rintro v1 h1 ⟨hx1, hi1⟩
  have hbn : (9223372036854775809 : Nat) < big := by decide
  have hd : (digs n.natAbs).length ≤ 32 := digs_bound (by omega)
  refine (Const_any h1 v1 n hi1 (by omega)).mono ?_
  rintro v2 h2 ⟨hx2, hp⟩
  exact ⟨hx1.trans hx2, hp⟩
end Go.Vc
