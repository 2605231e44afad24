/- Equality of exponents. -/
import Derived.Test.YtjjcncedfphnhaaSort
import Derived.ChangeKeysEq
namespace Go.Vc
open Go.Proofs

theorem part_int {e : TypeId} {k : IntKind} (hu : E.P.underlying e = some (.int k)) {xs : Array Value} {off : Nat} {v : Value} (hx : xs[off]? = some v) (w : World) : (part e xs off).run E.P w = .ok v w := by
  unfold part
  have ha : (isAgg e).run E.P w = .ok false w := by simp [isAgg, run_underlying hu]
  rw [Sem.run_bind, ha]
  simp [hx]

theorem eqExp_run (a b : List Nat) (ha : a.length = 4) (hb : b.length = 4) (w : World) : (Op.equal t_ar4_int (.agg (expV a).toArray) (.agg (expV b).toArray)).run E.P w = .ok (decide (a = b)) w := by
  obtain ⟨a0, a1, a2, a3, rfl⟩ := four ha
  obtain ⟨b0, b1, b2, b3, rfl⟩ := four hb
  have hu : E.P.underlying t_ar4_int = some (.array 4 t_int) := by kernel_rfl
  have hi : E.P.underlying t_int = some (.int .i64) := by kernel_rfl
  have hc : E.P.cellsOf t_int = 1 := by kernel_rfl
  obtain ⟨i, hinfo, -⟩ := (hE.tab t_int _ rfl).info
  show (Op.equalIn (9999 + 1) _ _ _).run E.P w = _
  rw [run_equalIn_array (P := E.P) (w := w) 9999 (i := i) _ _ hu hinfo, hc]
  show (Op.eqItems 9999 t_int 1 _ _ [0, 1, 2, 3]).run E.P w = _
  have p0 (x0 x1 x2 x3 : Nat) (w : World) := part_int hi (xs := (expV [x0, x1, x2, x3]).toArray) (off := 0 * 1) (v := .int .i64 x0) rfl w
  have p1 (x0 x1 x2 x3 : Nat) (w : World) := part_int hi (xs := (expV [x0, x1, x2, x3]).toArray) (off := 1 * 1) (v := .int .i64 x1) rfl w
  have p2 (x0 x1 x2 x3 : Nat) (w : World) := part_int hi (xs := (expV [x0, x1, x2, x3]).toArray) (off := 2 * 1) (v := .int .i64 x2) rfl w
  have p3 (x0 x1 x2 x3 : Nat) (w : World) := part_int hi (xs := (expV [x0, x1, x2, x3]).toArray) (off := 3 * 1) (v := .int .i64 x3) rfl w
  have q (x y : Nat) (w : World) : (Op.equalIn 9999 t_int (.int .i64 x) (.int .i64 y)).run E.P w = .ok ((x : Int) == y) w := by
    show (Op.equalIn (9998 + 1) t_int (.int .i64 x) (.int .i64 y)).run E.P w = _
    rw [run_equalIn_int (P := E.P) (w := w) 9998 t_int .i64 .i64 _ _ hi]
  simp only [Op.eqItems, Sem.run_bind, p0, q, Result.andThen_ok]
  by_cases h0 : a0 = b0
  · by_cases h1 : a1 = b1
    · by_cases h2 : a2 = b2
      · by_cases h3 : a3 = b3
        · subst h0 h1 h2 h3; simp [q, p1, p2, p3]
        · subst h0 h1 h2
          have : ((a3 : Int) == b3) = false := by rw [beq_eq_false_iff_ne]; omega
          simp [q, p1, p2, p3, this, h3]
      · subst h0 h1
        have : ((a2 : Int) == b2) = false := by rw [beq_eq_false_iff_ne]; omega
        simp [q, p1, p2, p3, this, h2]
    · subst h0
      have : ((a1 : Int) == b1) = false := by rw [beq_eq_false_iff_ne]; omega
      simp [q, p1, p2, p3, this, h1]
  · have : ((a0 : Int) == b0) = false := by rw [beq_eq_false_iff_ne]; omega
    simp [this, h0]

theorem neqExp (x y : Operand) (a b : List Nat) (ha : a.length = 4) (hb : b.length = 4) {K : Value → Prop} (hk : K (.bool (!decide (a = b)))) :
    DPure E (do eqGuard .neq t_ar4_int x y (.agg (expV a).toArray) (.agg (expV b).toArray); binOp .neq t_ar4_int (.agg (expV a).toArray) (.agg (expV b).toArray)) K := by
  refine DPure.intro _ (fun w => ?_) hk
  have hg : E.P.eqGuardType E.P.depth t_ar4_int = false := by kernel_rfl
  have h1 : (eqGuard .neq t_ar4_int x y (.agg (expV a).toArray) (.agg (expV b).toArray)).run E.P w = .ok () w := by
    simp [eqGuard, hg]
  rw [Sem.run_bind, h1, Result.andThen_ok]
  simp [binOp, eqExp_run a b ha hb]
end Go.Vc
