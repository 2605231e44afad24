/- Contracts of the functions on exponents and terms. -/
import Derived.Test.YtjjcncedfphnhaaInt
namespace Go.Vc
open Go.Proofs

def expV (e : List Nat) : List Value := e.map fun (d : Nat) => Value.int .i64 d

theorem expV_get {e : List Nat} {j : Nat} (hj : j < e.length) : (expV e)[j]? = some (.int .i64 (e[j] : Int)) := by simp [expV, hj]

/-- the first difference of two lists of one length -/
def cmpL : List Nat → List Nat → Int
  | x :: xs, y :: ys => if x < y then -1 else if y < x then 1 else cmpL xs ys
  | _, _ => 0
/-- the order of exponents: from the last one down -/
def cmpE (a b : List Nat) : Int := cmpL a.reverse b.reverse

theorem cmpE_step {a b : List Nat} {k : Nat} (ha : k < a.length) (hb : k < b.length) :
    cmpL (a.take (k + 1)).reverse (b.take (k + 1)).reverse = if a[k] < b[k] then -1 else if b[k] < a[k] then 1 else cmpL (a.take k).reverse (b.take k).reverse := by
  rw [List.take_succ_eq_append_getElem ha, List.take_succ_eq_append_getElem hb, List.reverse_append, List.reverse_append]
  rfl

theorem isNaN_any (h : Heap) (x : Int) : Spec E.P f_cmp_isNaN #[.int .i64 x] h (fun v h' => h' = h ∧ v = .bool false) := by
  refine Spec.intro hE (args := [_]) F_cmp_isNaN rfl rfl (Nat.le_of_ble_eq_true rfl) ?_
  refine ⟨rfl, ?_⟩
  show Value.bool _ = _
  simp

theorem cmpCompare_any (h : Heap) (x y : Int) : Spec E.P f_cmp_Compare #[.int .i64 x, .int .i64 y] h (fun v h' => h' = h ∧ v = .int .i64 (cmpI x y)) := by
  refine Spec.intro hE (args := [_, _]) F_cmp_Compare rfl rfl (Nat.le_of_ble_eq_true rfl) ?_
  refine (isNaN_any h x).mono ?_
  rintro _ _ ⟨rfl, rfl⟩
  refine (isNaN_any _ y).mono ?_
  rintro _ _ ⟨rfl, rfl⟩
  refine bsp.dec (fun hc => ?_) (fun hc => ?_)
  · exact ⟨rfl, by rw [cmpI, if_pos hc]⟩
  refine bsp.dec (fun hc2 => ?_) (fun hc2 => ?_)
  · exact ⟨rfl, by rw [cmpI, if_neg hc, if_pos hc2]⟩
  · exact ⟨rfl, by rw [cmpI, if_neg hc, if_neg (by omega)]⟩

theorem compareExp_any (h : Heap) (a b : List Nat) (ha : a.length = 4) (hb : b.length = 4) :
    Spec E.P f_checkpoly_compareExp #[.agg (expV a).toArray, .agg (expV b).toArray] h (fun v h' => Ext h h' ∧ v = .int .i64 (cmpE a b)) := by
  refine Spec.intro hE (args := [_, _]) F_checkpoly_compareExp rfl rfl (Nat.le_of_ble_eq_true rfl) ?_
  refine DNew.intro ?_
  intro b1 h1 hb1 hx1 hs1 hg1
  refine DNew.intro ?_
  intro b2 h2 hb2 hx2 hs2 hg2
  have w1 : Whole h2 b1 t_ar4_int (expV a) := hx2.at hg1
  have w2 : Whole h2 b2 t_ar4_int (expV b) := hg2
  refine DLoop.intro hE (ι := Nat) (fun k => [(5, .int .i64 ((k : Int) - 1)), (2, .pointer (some ⟨b1, 0, none⟩)), (3, .pointer (some ⟨b2, 0, none⟩))]) (fun k h' => h' = h2 ∧ k ≤ 4 ∧ cmpE a b = cmpL (a.take k).reverse (b.take k).reverse) (fun k => k) 4 rfl ⟨rfl, rfl, rfl, trivial⟩ ⟨rfl, Nat.le_refl _, ?_⟩ ?_
  · rw [List.take_of_length_le (by omega), List.take_of_length_le (by omega)]; rfl
  rintro k h' ⟨rfl, hk, he⟩
  refine bsp.dec (fun hc => ?_) (fun hc => ?_)
  · obtain ⟨m, rfl⟩ : ∃ m, k = m + 1 := ⟨k - 1, by omega⟩
    have hma : m < a.length := by omega
    have hmb : m < b.length := by omega
    rw [cmpE_step hma hmb] at he
    refine DDraw.intro hE (.take 0 (.take 1 (.take 3 (.take 4 (.take 2 (.take 5 (.take 6 .done))))))) none (· = h') (by kernel_rfl) rfl ?_
    refine DIdx.intro m rfl (by omega) (by omega) ?_
    refine DIdx.intro m rfl (by omega) (by omega) ?_
    refine QLoad.scalar (fun _ e => e ▸ w1.get _ (by rw [Nat.zero_add]; exact expV_get hma)) ?_
    refine QLoad.scalar (fun _ e => e ▸ w2.get _ (by rw [Nat.zero_add]; exact expV_get hmb)) ?_
    refine bsp.intro (fun hne => ?_) (fun hne => ?_)
    · refine DDraw.intro hE (.take 0 (.take 1 (.take 3 (.take 4 (.take 2 (.take 5 (.one 6 (.one 7 .done)))))))) none (Ext h' ·) (by kernel_rfl) Ext.rfl ?_
      refine DIdx.intro m rfl (by omega) (by omega) ?_
      refine DIdx.intro m rfl (by omega) (by omega) ?_
      refine QLoad.scalar (fun _ e => (w1.ext e).get _ (by rw [Nat.zero_add]; exact expV_get hma)) ?_
      refine QLoad.scalar (fun _ e => (w2.ext e).get _ (by rw [Nat.zero_add]; exact expV_get hmb)) ?_
      refine (cmpCompare_any h' _ _).mono ?_
      rintro _ _ ⟨rfl, rfl⟩
      refine ⟨Ext.rfl, Ext.rfl, hx1.trans hx2, ?_⟩
      rw [he]
      have : a[m] ≠ b[m] := by simp at hne; omega
      unfold cmpI
      congr 1
      by_cases h1 : a[m] < b[m]
      · rw [if_pos h1, if_pos (show (a[m] : Int) < b[m] by omega)]
      · rw [if_neg h1, if_neg (show ¬ (a[m] : Int) < b[m] by omega), if_pos (show b[m] < a[m] by omega), if_pos (show (a[m] : Int) > b[m] by omega)]
    · refine DWrap.is ((m : Int) - 1) (by omega) (by omega) ?_
      refine ⟨m, ⟨rfl, rfl, rfl, trivial⟩, ⟨rfl, by omega, ?_⟩, by omega⟩
      have : a[m] = b[m] := by simp at hne; omega
      rw [he, if_neg (by omega), if_neg (by omega)]
  · obtain rfl : k = 0 := by omega
    exact ⟨hx1.trans hx2, by rw [he]; rfl⟩

theorem greater_any (h : Heap) (a b : List Nat) (ha : a.length = 4) (hb : b.length = 4) :
    Spec E.P f_cylinderlaw54_greater #[.agg (expV a).toArray, .agg (expV b).toArray] h (fun v h' => Ext h h' ∧ v = .bool (decide (cmpE a b = 1))) := by
  refine Spec.intro hE (args := [_, _]) F_cylinderlaw54_greater rfl rfl (Nat.le_of_ble_eq_true rfl) ?_
  refine DNew.intro ?_
  intro b1 h1 hb1 hx1 hs1 hg1
  refine DNew.intro ?_
  intro b2 h2 hb2 hx2 hs2 hg2
  have w1 : Whole h2 b1 t_ar4_int (expV a) := hx2.at hg1
  have w2 : Whole h2 b2 t_ar4_int (expV b) := hg2
  refine DLoop.intro hE (ι := Nat) (fun k => [(5, .int .i64 ((k : Int) - 1)), (2, .pointer (some ⟨b1, 0, none⟩)), (3, .pointer (some ⟨b2, 0, none⟩))]) (fun k h' => h' = h2 ∧ k ≤ 4 ∧ cmpE a b = cmpL (a.take k).reverse (b.take k).reverse) (fun k => k) 4 rfl ⟨rfl, rfl, rfl, trivial⟩ ⟨rfl, Nat.le_refl _, ?_⟩ ?_
  · rw [List.take_of_length_le (by omega), List.take_of_length_le (by omega)]; rfl
  rintro k h' ⟨rfl, hk, he⟩
  refine bsp.dec (fun hc => ?_) (fun hc => ?_)
  · obtain ⟨m, rfl⟩ : ∃ m, k = m + 1 := ⟨k - 1, by omega⟩
    have hma : m < a.length := by omega
    have hmb : m < b.length := by omega
    rw [cmpE_step hma hmb] at he
    refine DDraw.intro hE (.take 0 (.take 1 (.take 3 (.take 4 (.take 2 (.take 5 (.take 6 .done))))))) none (· = h') (by kernel_rfl) rfl ?_
    refine DIdx.intro m rfl (by omega) (by omega) ?_
    refine DIdx.intro m rfl (by omega) (by omega) ?_
    refine QLoad.scalar (fun _ e => e ▸ w1.get _ (by rw [Nat.zero_add]; exact expV_get hma)) ?_
    refine QLoad.scalar (fun _ e => e ▸ w2.get _ (by rw [Nat.zero_add]; exact expV_get hmb)) ?_
    refine bsp.intro (fun hne => ?_) (fun hne => ?_)
    · refine DDraw.intro hE (.take 0 (.take 1 (.take 3 (.take 4 (.take 2 (.take 5 (.take 6 (.one 7 .done)))))))) none (Ext h' ·) (by kernel_rfl) Ext.rfl ?_
      refine DIdx.intro m rfl (by omega) (by omega) ?_
      refine DIdx.intro m rfl (by omega) (by omega) ?_
      refine QLoad.scalar (fun _ e => (w1.ext e).get _ (by rw [Nat.zero_add]; exact expV_get hma)) ?_
      refine QLoad.scalar (fun _ e => (w2.ext e).get _ (by rw [Nat.zero_add]; exact expV_get hmb)) ?_
      refine ⟨Ext.rfl, hx1.trans hx2, ?_⟩
      rw [he]
      have : a[m] ≠ b[m] := by simp at hne; omega
      congr 1
      rw [Bool.eq_iff_iff]
      simp only [decide_eq_true_eq]
      by_cases h1 : a[m] < b[m]
      · rw [if_pos h1]; omega
      · rw [if_neg h1, if_pos (by omega)]; omega
    · refine DWrap.is ((m : Int) - 1) (by omega) (by omega) ?_
      refine ⟨m, ⟨rfl, rfl, rfl, trivial⟩, ⟨rfl, by omega, ?_⟩, by omega⟩
      have : a[m] = b[m] := by simp at hne; omega
      rw [he, if_neg (by omega), if_neg (by omega)]
  · obtain rfl : k = 0 := by omega
    exact ⟨hx1.trans hx2, by rw [he]; rfl⟩
end Go.Vc

namespace Go.Vc
theorem cmpL_swap : ∀ (a b : List Nat), cmpL b a = -cmpL a b
  | [], [] => rfl
  | [], _ :: _ => rfl
  | _ :: _, [] => rfl
  | x :: xs, y :: ys => by
    unfold cmpL
    have := cmpL_swap xs ys
    repeat' split
    all_goals omega
theorem cmpL_zero : ∀ {a b : List Nat}, a.length = b.length → (cmpL a b = 0 ↔ a = b)
  | [], [], _ => by simp [cmpL]
  | x :: xs, y :: ys, h => by
    have := @cmpL_zero xs ys (by simpa using h)
    unfold cmpL
    simp only [List.cons.injEq, ← this]
    repeat' split
    all_goals omega
theorem cmpL_val (a b : List Nat) : cmpL a b = -1 ∨ cmpL a b = 0 ∨ cmpL a b = 1 := by
  induction a generalizing b with
  | nil => exact .inr (.inl (by unfold cmpL; rfl))
  | cons x xs ih =>
    cases b with
    | nil => exact .inr (.inl rfl)
    | cons y ys =>
      have := ih ys
      unfold cmpL
      repeat' split
      all_goals omega
theorem cmpL_trans : ∀ {a b c : List Nat}, a.length = b.length → b.length = c.length → 0 ≤ cmpL a b → 0 ≤ cmpL b c → 0 ≤ cmpL a c
  | [], [], [], _, _, _, _ => by simp [cmpL]
  | x :: xs, y :: ys, z :: zs, h1, h2, h3, h4 => by
    have := @cmpL_trans xs ys zs (by simpa using h1) (by simpa using h2)
    unfold cmpL at h3 h4 ⊢
    repeat' split at h3
    all_goals repeat' split at h4
    all_goals repeat' split
    all_goals omega
theorem cmpL_trans1 : ∀ {a b c : List Nat}, a.length = b.length → b.length = c.length → cmpL a b = 1 → 0 ≤ cmpL b c → cmpL a c = 1
  | [], [], [], _, _, h3, _ => by simp [cmpL] at h3
  | x :: xs, y :: ys, z :: zs, h1, h2, h3, h4 => by
    have := @cmpL_trans1 xs ys zs (by simpa using h1) (by simpa using h2)
    unfold cmpL at h3 h4 ⊢
    repeat' split at h3
    all_goals repeat' split at h4
    all_goals repeat' split
    all_goals omega
theorem cmpE_swap (a b : List Nat) : cmpE b a = -cmpE a b := cmpL_swap _ _
theorem cmpE_zero {a b : List Nat} (h : a.length = b.length) : cmpE a b = 0 ↔ a = b := by
  unfold cmpE; rw [cmpL_zero (by simpa using h)]
  exact ⟨fun e => List.reverse_inj.1 e, fun e => by rw [e]⟩
theorem cmpE_val (a b : List Nat) : cmpE a b = -1 ∨ cmpE a b = 0 ∨ cmpE a b = 1 := cmpL_val _ _
theorem cmpE_trans {a b c : List Nat} (h1 : a.length = b.length) (h2 : b.length = c.length) : 0 ≤ cmpE a b → 0 ≤ cmpE b c → 0 ≤ cmpE a c :=
  cmpL_trans (by simpa using h1) (by simpa using h2)
theorem cmpE_trans1 {a b c : List Nat} (h1 : a.length = b.length) (h2 : b.length = c.length) : cmpE a b = 1 → 0 ≤ cmpE b c → cmpE a c = 1 :=
  cmpL_trans1 (by simpa using h1) (by simpa using h2)
end Go.Vc
