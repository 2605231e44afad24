/- The separation of factors, as relations. -/
import Derived.Test.YtnjkjmhhjooijaaDoorMr
namespace Go.Vc

def trialM (p n : Nat) : List Nat := if p = 2 then List.replicate (2 * n + 1) 0 ++ [1] else trialF p (n + p) (n + p)
def partM (p : Nat) (f : List Nat) (degree n : Nat) : List Nat := gcdM p (sepM p (trialM p n) f degree) f
def Hit (p : Nat) (f : List Nat) (degree n : Nat) : Prop := 1 < (partM p f degree n).length ∧ (partM p f degree n).length < f.length
instance (p : Nat) (f : List Nat) (degree n : Nat) : Decidable (Hit p f degree n) := by unfold Hit; exact inferInstance
/-- what equalDegree returns -/
inductive EqD (p degree : Nat) : List Nat → List (List Nat) → Prop where
  | leaf (f : List Nat) (h : f.length - 1 ≤ degree) : EqD p degree f [f]
  | node (f : List Nat) (n : Nat) (L1 L2 : List (List Nat)) (hd : degree < f.length - 1) (hn : n < 1099511627776 ∧ (p = 2 → n < 1000)) (hit : Hit p f degree n) (first : ∀ m, m < n → ¬ Hit p f degree m) (h1 : EqD p degree (partM p f degree n) L1) (h2 : EqD p degree (divM p f (partM p f degree n)).1 L2) : EqD p degree f (L1 ++ L2)
/-- what byDegree returns, from some degree on -/
inductive ByD (p : Nat) : List Nat → List Nat → Nat → List (List Nat) → List (List Nat) → Prop where
  | done (f power : List Nat) (degree : Nat) (l : List (List Nat)) (h : ¬ 2 * degree ≤ f.length - 1) : ByD p f power degree l (l ++ if 1 < f.length then [f] else [])
  | skip (f power : List Nat) (degree : Nat) (l L : List (List Nat)) (h : 2 * degree ≤ f.length - 1) (hp : ¬ 1 < (gcdM p (subM p (powM p power p f) [0, 1]) f).length) (r : ByD p f (powM p power p f) (degree + 1) l L) : ByD p f power degree l L
  | take (f power : List Nat) (degree : Nat) (l L1 L : List (List Nat)) (h : 2 * degree ≤ f.length - 1) (hp : 1 < (gcdM p (subM p (powM p power p f) [0, 1]) f).length) (he : EqD p degree (gcdM p (subM p (powM p power p f) [0, 1]) f) L1)
      (r : ByD p (divM p f (gcdM p (subM p (powM p power p f) [0, 1]) f)).1 (remM p (powM p power p f) (divM p f (gcdM p (subM p (powM p power p f) [0, 1]) f)).1) (degree + 1) (l ++ L1) L) : ByD p f power degree l L

theorem EqD.ne {p degree : Nat} {f : List Nat} {L : List (List Nat)} (h : EqD p degree f L) : L ≠ [] := by
  induction h with
  | leaf => simp
  | node _ _ _ _ _ _ _ _ _ _ ih => simp [ih]

theorem ByD.len {p : Nat} {f power : List Nat} {degree : Nat} {l L : List (List Nat)} (h : ByD p f power degree l L) : l.length ≤ L.length := by
  induction h with
  | done => simp
  | skip _ _ _ _ _ _ _ _ ih => exact ih
  | take _ _ _ _ _ _ _ _ _ _ ih => rw [List.length_append] at ih; omega
theorem fld5 : Fld 5 := ⟨by decide, by decide, fun a h0 h1 => by
  match a, h0, h1 with
  | 1, _, _ => exact ⟨1, by decide, by decide⟩
  | 2, _, _ => exact ⟨3, by decide, by decide⟩
  | 3, _, _ => exact ⟨2, by decide, by decide⟩
  | 4, _, _ => exact ⟨4, by decide, by decide⟩⟩
theorem part0 : ¬ Hit 5 [1, 0, 1] 1 0 := by decide
theorem part1 : partM 5 [1, 0, 1] 1 1 = [2, 1] := by decide
theorem rest1 : (divM 5 [1, 0, 1] [2, 1]).1 = [3, 1] := by decide
theorem fitEq : EqD 5 1 [1, 0, 1] [[2, 1], [3, 1]] := by
  refine EqD.node [1, 0, 1] 1 [[2, 1]] [[3, 1]] (by decide) ⟨by decide, fun h => by cases h⟩ (by decide) (fun m hm => by rw [show m = 0 by omega]; exact part0) ?_ ?_
  · rw [part1]; exact EqD.leaf _ (by decide)
  · rw [part1, rest1]; exact EqD.leaf _ (by decide)
theorem fitPart : gcdM 5 (subM 5 (powM 5 (remM 5 [0, 1] [1, 0, 1]) 5 [1, 0, 1]) [0, 1]) [1, 0, 1] = [1, 0, 1] := by decide
theorem fitBy : ByD 5 [1, 0, 1] (remM 5 [0, 1] [1, 0, 1]) 1 [] [[2, 1], [3, 1]] := by
  refine ByD.take _ _ _ _ [[2, 1], [3, 1]] _ (by decide) (by rw [fitPart]; decide) (by rw [fitPart]; exact fitEq) ?_
  rw [fitPart]
  exact ByD.done _ _ _ _ (by decide)
theorem fitSq : (gcdM 5 [1, 0, 1] (derivM 5 [1, 0, 1])).length = 1 := by decide
theorem fitMonic : monicM 5 [1, 0, 1] = [1, 0, 1] := by decide
end Go.Vc
