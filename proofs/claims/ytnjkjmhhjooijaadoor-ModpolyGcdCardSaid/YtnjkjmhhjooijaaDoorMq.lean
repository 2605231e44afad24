/- Division, greatest common divisors, powers: as functions on lists. -/
import Derived.Test.YtnjkjmhhjooijaaDoorMp
namespace Go.Vc

/-- every number other than 0 has an inverse -/
structure Fld (p : Nat) : Prop where
  two : 2 ≤ p
  lt : p < 4294967296
  inv : ∀ a, 0 < a → a < p → ∃ x, x < p ∧ a * x % p = 1

/-- the inverse, by search -/
def invM (a p : Nat) : Nat := ((List.range p).find? fun x => a * x % p == 1).getD 0
theorem invM_eq {a p x : Nat} (hx : x < p) (h : a * x % p = 1) : invM a p = x ∧ a * invM a p % p = 1 ∧ invM a p < p := by
  unfold invM
  cases hf : (List.range p).find? fun x => a * x % p == 1 with
  | none =>
    have := List.find?_eq_none.1 hf x (by simpa using hx)
    simp [h] at this
  | some y =>
    have h1 := List.find?_some hf
    have h2 := List.mem_of_find?_eq_some hf
    simp at h1 h2
    simp only [Option.getD_some]
    refine ⟨?_, h1, h2⟩
    -- y = y * (a * x) = x * (a * y) = x
    have e1 : y * (a * x) % p = y := by rw [Nat.mul_mod, h, Nat.mul_one, Nat.mod_mod, Nat.mod_eq_of_lt h2]
    have e2 : x * (a * y) % p = x := by rw [Nat.mul_mod, h1, Nat.mul_one, Nat.mod_mod, Nat.mod_eq_of_lt hx]
    have e3 : y * (a * x) = x * (a * y) := by rw [Nat.mul_left_comm, Nat.mul_left_comm x, Nat.mul_comm y x]
    rw [← e1, e3, e2]
theorem Fld.invM {p a : Nat} (hp : Fld p) (h0 : a % p ≠ 0) : a * Vc.invM a p % p = 1 ∧ Vc.invM a p < p := by
  obtain ⟨x, hx, h⟩ := hp.inv (a % p) (by omega) (Nat.mod_lt _ (by have := hp.two; omega))
  rw [Nat.mod_mul_mod] at h
  exact (invM_eq hx h).2

def subRow (M minus low : Nat) (g r : List Nat) : List Nat := (List.range r.length).map fun k => if low ≤ k ∧ k < low + g.length then (co r k + minus * co g (k - low) % M) % M else co r k
/-- the division from the coefficient n down -/
def divL (M inv : Nat) (g : List Nat) : Nat → List Nat → List Nat × List Nat
  | 0, r => ([], r)
  | n + 1, r =>
    let c := co r (n + (g.length - 1)) * inv % M
    let d := divL M inv g n (if c = 0 then r else subRow M (M - c) n g r)
    (d.1 ++ [c], d.2)
def divM (p : Nat) (f g : List Nat) : List Nat × List Nat :=
  if f.length ≤ g.length - 1 then ([], f) else
    let d := divL p (invM (co g (g.length - 1)) p) g (f.length - (g.length - 1)) f
    (trimL d.1, trimL d.2)
def remM (p : Nat) (f g : List Nat) : List Nat := (divM p f g).2
def scaleM (p : Nat) (f : List Nat) (c : Nat) : List Nat := cnf p f.length fun i => co f i * c
def monicM (p : Nat) (f : List Nat) : List Nat := if f = [] then [] else scaleM p f (invM (co f (f.length - 1)) p)
def gcdF (p : Nat) : Nat → List Nat → List Nat → List Nat
  | 0, f, _ => monicM p f
  | n + 1, f, g => if g = [] then monicM p f else gcdF p n g (remM p f g)
def gcdM (p : Nat) (f g : List Nat) : List Nat := gcdF p g.length f g
def subM (M : Nat) (f g : List Nat) : List Nat := cnf M (max f.length g.length) fun i => co f i + (M - co g i % M)
def addM (M : Nat) (f g : List Nat) : List Nat := cnf M (max f.length g.length) fun i => co f i + co g i
def derivM (M : Nat) (f : List Nat) : List Nat := cnf M (f.length - 1) fun i => co f (i + 1) * (i + 1)
def powF (p : Nat) (g : List Nat) : Nat → Nat → List Nat → List Nat → List Nat
  | 0, _, r, _ => r
  | k + 1, n, r, s => if n = 0 then r else powF p g k (n / 2) (if n % 2 = 0 then r else remM p (mulM p r s) g) (if n / 2 = 0 then s else remM p (mulM p s s) g)
def powM (p : Nat) (f : List Nat) (n : Nat) (g : List Nat) : List Nat := powF p g n n (remM p [1] g) (remM p f g)
def trialF (p : Nat) : Nat → Nat → List Nat
  | 0, _ => []
  | k + 1, n => if n = 0 then [] else n % p :: trialF p k (n / p)
/-- the product and the sum of the conjugates -/
def sepF (p : Nat) (f : List Nat) : Nat → List Nat → List Nat → List Nat → List Nat × List Nat
  | 0, _, s, d => (s, d)
  | k + 1, c, s, d => let c' := powM p c p f; sepF p f k c' (addM p s c') (if p = 2 then d else remM p (mulM p d c') f)
def sepM (p : Nat) (t f : List Nat) (degree : Nat) : List Nat :=
  let c := remM p t f
  let sd := sepF p f (degree - 1) c c c
  if p = 2 then sd.1 else subM p (powM p sd.2 ((p - 1) / 2) f) [1]

theorem subRow_len (M minus low : Nat) (g r : List Nat) : (subRow M minus low g r).length = r.length := by simp [subRow]
theorem co_subRow {M minus low k : Nat} {g r : List Nat} (hk : k < r.length) : co (subRow M minus low g r) k = if low ≤ k ∧ k < low + g.length then (co r k + minus * co g (k - low) % M) % M else co r k := by
  rw [co_lt (by rw [subRow_len]; exact hk)]; simp [subRow]
theorem divL_len (M inv : Nat) (g : List Nat) : ∀ n r, (divL M inv g n r).1.length = n ∧ (divL M inv g n r).2.length = r.length
  | 0, r => ⟨rfl, rfl⟩
  | n + 1, r => by
    have ih := divL_len M inv g n (if co r (n + (g.length - 1)) * inv % M = 0 then r else subRow M (M - co r (n + (g.length - 1)) * inv % M) n g r)
    refine ⟨?_, ?_⟩
    · show (_ ++ [_]).length = n + 1
      rw [List.length_append, ih.1]; rfl
    · show (divL M inv g n _).2.length = r.length
      rw [ih.2]
      split
      · rfl
      · exact subRow_len _ _ _ _ _
end Go.Vc
